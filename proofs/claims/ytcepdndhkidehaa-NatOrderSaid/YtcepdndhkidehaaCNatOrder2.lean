/- Texts that the proof of NatOrder stands on, part 2. -/
import Derived.Test.YtcepdndhkidehaaCNatOrderWMore
import Derived.Test.YtcepdndhkidehaaCNatOrderWNEv
import Derived.Test.YtcepdndhkidehaaCNatOrder0
import Derived.Test.YtcepdndhkidehaaCNatOrder1
section
namespace Go.Proofs.Ytcepdndhkidehaa.PA
open Go.RowKit Go.Proofs.YtcepdndhkidehaaW.PrintWords Go.Proofs.YtcepdndhkidehaaW.PrintLast Go.Proofs.YtcepdndhkidehaaW.PrintMore
attribute [local go_sem] max2_int min2_int max_two min_two max_three min_three max_four min_four   -- for this text's walks alone
set_option linter.unusedVariables false
set_option linter.unusedSimpArgs false

/-! ### numerarylaw02_NatOrder: function 9 -/
def numerarylaw02_NatOrder.j0 : Nat → Int → Bool → List Int → List Int → List Int → Option (Bool)
  | 0, _, _, _, _, _ => none
  | k + 1, x10, x63, x628000, x629000, x630000 => if x63 = true then (some false) else ((numerarylaw02_wakes.f k).bind fun t651 => (if t651 = true then ((nat_Add.f k x628000 x630000).bind fun t652 => ((nat_Add.f k x629000 x630000).bind fun t655 => ((nat_Cmp.f k t652 t655).bind fun t658 => (if t658 = x10 then ((nat_Cmp.f k x628000 x628000).bind fun t659 => (some (t659 == 0))) else (some false))))) else (some false)))
def numerarylaw02_NatOrder.f (k : Nat) (l0 : List Int) (l1 : List Int) (l2 : List Int) : Option (Bool) := (numerarylaw02_few.f l0).bind fun t609 => ((nat_Made.f k t609).bind fun t612 => ((numerarylaw02_few.f l1).bind fun t615 => ((nat_Made.f k t615).bind fun t618 => ((numerarylaw02_few.f l2).bind fun t621 => ((nat_Made.f k t621).bind fun t624 => ((nat_Cmp.f k t612 t618).bind fun t630 => ((nat_Cmp.f k t618 t624).bind fun t631 => ((nat_Cmp.f k t612 t624).bind fun t632 => (if t630 ≤ 0 then (if t631 ≤ 0 then (if t632 > 0 then (numerarylaw02_NatOrder.j0 k t630 true t612 t618 t624) else (if t630 ≥ 0 then (if t631 ≥ 0 then (if t632 < 0 then (numerarylaw02_NatOrder.j0 k t630 true t612 t618 t624) else ((nat_Nat_Bits.f t612).bind fun t633 => ((nat_Nat_Bits.f t618).bind fun t634 => (if t633 > t634 then (numerarylaw02_NatOrder.j0 k t630 (t630 != 1) t612 t618 t624) else (numerarylaw02_NatOrder.j0 k t630 false t612 t618 t624))))) else ((nat_Nat_Bits.f t612).bind fun t635 => ((nat_Nat_Bits.f t618).bind fun t636 => (if t635 > t636 then (numerarylaw02_NatOrder.j0 k t630 (t630 != 1) t612 t618 t624) else (numerarylaw02_NatOrder.j0 k t630 false t612 t618 t624))))) else ((nat_Nat_Bits.f t612).bind fun t637 => ((nat_Nat_Bits.f t618).bind fun t638 => (if t637 > t638 then (numerarylaw02_NatOrder.j0 k t630 (t630 != 1) t612 t618 t624) else (numerarylaw02_NatOrder.j0 k t630 false t612 t618 t624)))))) else (if t630 ≥ 0 then (if t631 ≥ 0 then (if t632 < 0 then (numerarylaw02_NatOrder.j0 k t630 true t612 t618 t624) else ((nat_Nat_Bits.f t612).bind fun t639 => ((nat_Nat_Bits.f t618).bind fun t640 => (if t639 > t640 then (numerarylaw02_NatOrder.j0 k t630 (t630 != 1) t612 t618 t624) else (numerarylaw02_NatOrder.j0 k t630 false t612 t618 t624))))) else ((nat_Nat_Bits.f t612).bind fun t641 => ((nat_Nat_Bits.f t618).bind fun t642 => (if t641 > t642 then (numerarylaw02_NatOrder.j0 k t630 (t630 != 1) t612 t618 t624) else (numerarylaw02_NatOrder.j0 k t630 false t612 t618 t624))))) else ((nat_Nat_Bits.f t612).bind fun t643 => ((nat_Nat_Bits.f t618).bind fun t644 => (if t643 > t644 then (numerarylaw02_NatOrder.j0 k t630 (t630 != 1) t612 t618 t624) else (numerarylaw02_NatOrder.j0 k t630 false t612 t618 t624)))))) else (if t630 ≥ 0 then (if t631 ≥ 0 then (if t632 < 0 then (numerarylaw02_NatOrder.j0 k t630 true t612 t618 t624) else ((nat_Nat_Bits.f t612).bind fun t645 => ((nat_Nat_Bits.f t618).bind fun t646 => (if t645 > t646 then (numerarylaw02_NatOrder.j0 k t630 (t630 != 1) t612 t618 t624) else (numerarylaw02_NatOrder.j0 k t630 false t612 t618 t624))))) else ((nat_Nat_Bits.f t612).bind fun t647 => ((nat_Nat_Bits.f t618).bind fun t648 => (if t647 > t648 then (numerarylaw02_NatOrder.j0 k t630 (t630 != 1) t612 t618 t624) else (numerarylaw02_NatOrder.j0 k t630 false t612 t618 t624))))) else ((nat_Nat_Bits.f t612).bind fun t649 => ((nat_Nat_Bits.f t618).bind fun t650 => (if t649 > t650 then (numerarylaw02_NatOrder.j0 k t630 (t630 != 1) t612 t618 t624) else (numerarylaw02_NatOrder.j0 k t630 false t612 t618 t624))))))))))))))
theorem numerarylaw02_NatOrder.mono_l : ∀ k, (∀ y0 y1 y2 y3 y4, LeO (numerarylaw02_NatOrder.j0 k y0 y1 y2 y3 y4) (numerarylaw02_NatOrder.j0 (k + 1) y0 y1 y2 y3 y4))
  | 0 => fun _ _ _ _ _ r h => by simp [numerarylaw02_NatOrder.j0] at h
  | k + 1 => by
    have ih0 := numerarylaw02_NatOrder.mono_l k
    intro y0 y1 y2 y3 y4
    unfold numerarylaw02_NatOrder.j0
    repeat' first
    | (with_reducible exact ih0 _ _ _ _ _)
    | (with_reducible exact nat_Add.mono _ _ _)
    | (with_reducible exact nat_Cmp.mono _ _ _)
    | (with_reducible exact nat_Made.mono _ _)
    | (with_reducible exact numerarylaw02_wakes.mono _)
    | (with_reducible exact LeO.refl _)
    | (with_reducible exact LeO.none _)
    | (with_reducible refine LeO.ite ?_ ?_)
    | (with_reducible refine LeO.bind ?_ (fun _ => ?_))
    | exact ih0 _ _ _ _ _
    | exact nat_Add.mono _ _ _
    | exact nat_Cmp.mono _ _ _
    | exact nat_Made.mono _ _
    | exact numerarylaw02_wakes.mono _
    | exact LeO.none _
    | refine LeO.ite ?_ ?_
    | refine LeO.bind ?_ (fun _ => ?_)
theorem numerarylaw02_NatOrder.mono : ∀ a0 a1 a2 k, LeO (numerarylaw02_NatOrder.f k a0 a1 a2) (numerarylaw02_NatOrder.f (k + 1) a0 a1 a2) := by
  intro a0 a1 a2 k
  have ih0 := numerarylaw02_NatOrder.mono_l k
  unfold numerarylaw02_NatOrder.f
  repeat' first
      | (with_reducible exact ih0 _ _ _ _ _)
      | (with_reducible exact nat_Add.mono _ _ _)
      | (with_reducible exact nat_Cmp.mono _ _ _)
      | (with_reducible exact nat_Made.mono _ _)
      | (with_reducible exact numerarylaw02_wakes.mono _)
      | (with_reducible exact LeO.refl _)
      | (with_reducible exact LeO.none _)
      | (with_reducible refine LeO.ite ?_ ?_)
      | (with_reducible refine LeO.bind ?_ (fun _ => ?_))
def numerarylaw02_NatOrder.T2 : Bool × List (List Nat × List Nat) := (true, [([], []), ([], []), ([0, 1], [0, 1]), ([], []), ([], []), ([3, 4, 2], [3, 4]), ([], []), ([], []), ([6, 7, 5], [6, 7]), ([2, 8, 0, 1, 2], [2]), ([5, 9, 0, 1, 2, 3, 4, 5, 9], [5]), ([8, 10, 0, 1, 2, 3, 4, 5, 6, 7, 8, 9, 10], [8])])
def numerarylaw02_NatOrder.B2 : List Nat := [0, 0, 3, 0, 0, 31, 0, 0, 255, 511, 1023, 2047]
theorem numerarylaw02_NatOrder.tab2 : rtab .any (opsOf Try.f9 2) = numerarylaw02_NatOrder.T2 := by kernel_rfl
theorem numerarylaw02_NatOrder.bits2 : waitsOk numerarylaw02_NatOrder.T2.2 numerarylaw02_NatOrder.B2 = true := by kernel_rfl
def numerarylaw02_NatOrder.T3 : Bool × List (List Nat × List Nat) := (true, [([], []), ([0], [0]), ([1], [1]), ([2], [2]), ([3, 2], [2, 3]), ([2, 4], [2, 4]), ([5, 2], [5]), ([6], [6]), ([7, 6], [6, 7]), ([6, 8], [6, 8]), ([9, 6], [9]), ([10], [10]), ([11, 10], [10, 11]), ([12, 10, 10], [10, 12]), ([13], [13]), ([14, 13], [13, 14]), ([13, 15, 10], [10, 13, 15]), ([16, 13, 10], [10, 16]), ([17], [17]), ([18, 17], [17, 18]), ([17, 19, 10], [10, 17, 19]), ([10, 20], [10, 20]), ([21, 17], [21]), ([22], [22]), ([23, 22, 22], [22, 23]), ([22], [22]), ([25, 24, 22], [22, 25]), ([24, 26, 22], [22, 24, 26]), ([27, 26, 22], [22, 27]), ([28], [28]), ([29, 28], [28, 29]), ([28, 30, 22], [22, 28, 30]), ([22, 31], [22, 31])])
def numerarylaw02_NatOrder.B3 : List Nat := [0, 1, 3, 7, 15, 31, 63, 127, 255, 511, 1023, 2047, 4095, 8191, 16383, 32767, 65535, 131071, 262143, 524287, 1048575, 2097151, 4194303, 8388607, 16777215, 8388607, 67108863, 134217727, 268435455, 536870911, 1073741823, 2147483647, 4294967295]
theorem numerarylaw02_NatOrder.tab3 : rtab .any (opsOf Try.f9 3) = numerarylaw02_NatOrder.T3 := by kernel_rfl
theorem numerarylaw02_NatOrder.bits3 : waitsOk numerarylaw02_NatOrder.T3.2 numerarylaw02_NatOrder.B3 = true := by kernel_rfl
def numerarylaw02_NatOrder.T5 : Bool × List (List Nat × List Nat) := (true, [([], []), ([0, 0], [0]), ([1], [1]), ([1], [1]), ([2, 3, 1, 1], [1, 2, 3]), ([1], [1]), ([1], [1]), ([5, 6, 4, 1], [1, 5, 6]), ([4, 7, 7, 1], [1, 4, 7]), ([1], [1]), ([8, 9, 1], [1, 8, 9]), ([1, 10], [1, 10]), ([11, 8], [11]), ([12], [12]), ([12], [12]), ([13, 14, 12, 12], [12, 13, 14]), ([15, 12], [12, 15]), ([12, 16], [12, 16]), ([17, 15, 0, 1, 2, 3, 4, 5, 6, 7, 8, 9, 10, 11, 12, 13, 14, 15, 16, 17], [17])])
def numerarylaw02_NatOrder.B5 : List Nat := [0, 1, 3, 3, 15, 3, 3, 127, 255, 3, 1023, 2047, 4095, 8191, 8191, 32767, 65535, 131071, 262143]
theorem numerarylaw02_NatOrder.tab5 : rtab .any (opsOf Try.f9 5) = numerarylaw02_NatOrder.T5 := by kernel_rfl
theorem numerarylaw02_NatOrder.bits5 : waitsOk numerarylaw02_NatOrder.T5.2 numerarylaw02_NatOrder.B5 = true := by kernel_rfl
set_option maxHeartbeats 8000000 in
set_option maxRecDepth 100000 in
theorem numerarylaw02_NatOrder.calls (k : Nat) (A0 : Option Addr) (c0 : Nat) (l0 : List Int) (A1 : Option Addr) (c1 : Nat) (l1 : List Int) (A2 : Option Addr) (c2 : Nat) (l2 : List Int) (r : Bool) (w : World) (hr0 : Kd.C (Kd.int .u32) w A0 l0.length l0) (hc0 : l0.length ≤ c0) (hr1 : Kd.C (Kd.int .u32) w A1 l1.length l1) (hc1 : l1.length ≤ c1) (hr2 : Kd.C (Kd.int .u32) w A2 l2.length l2) (hc2 : l2.length ≤ c2) (h : numerarylaw02_NatOrder.f k l0 l1 l2 = some r) (hr_ : r = true) :
    Calls Try.prog 9 #[.slice A0 l0.length c0, .slice A1 l1.length c1, .slice A2 l2.length c2] w fun e w' => e = .returned (.bool r) ∧ Below w.heap.size w w' := by
  have HR_ := Aside0.mk hr_
  clear hr_
  have hu25 := Try.underlying25
  have HR0 := Aside0.mk hr0
  have HC0 := Aside0.mk hc0
  clear hr0 hc0
  have HR1 := Aside0.mk hr1
  have HC1 := Aside0.mk hc1
  clear hr1 hc1
  have HR2 := Aside0.mk hr2
  have HC2 := Aside0.mk hc2
  clear hr2 hc2
  have HB := Aside0.mk (Below.refl w.heap.size w)
  have H : ((numerarylaw02_few.f l0).bind fun t609 => ((nat_Made.f k t609).bind fun t612 => ((numerarylaw02_few.f l1).bind fun t615 => ((nat_Made.f k t615).bind fun t618 => ((numerarylaw02_few.f l2).bind fun t621 => ((nat_Made.f k t621).bind fun t624 => ((nat_Cmp.f k t612 t618).bind fun t630 => ((nat_Cmp.f k t618 t624).bind fun t631 => ((nat_Cmp.f k t612 t624).bind fun t632 => (if t630 ≤ 0 then (if t631 ≤ 0 then (if t632 > 0 then (numerarylaw02_NatOrder.j0 k t630 true t612 t618 t624) else (if t630 ≥ 0 then (if t631 ≥ 0 then (if t632 < 0 then (numerarylaw02_NatOrder.j0 k t630 true t612 t618 t624) else ((nat_Nat_Bits.f t612).bind fun t633 => ((nat_Nat_Bits.f t618).bind fun t634 => (if t633 > t634 then (numerarylaw02_NatOrder.j0 k t630 (t630 != 1) t612 t618 t624) else (numerarylaw02_NatOrder.j0 k t630 false t612 t618 t624))))) else ((nat_Nat_Bits.f t612).bind fun t635 => ((nat_Nat_Bits.f t618).bind fun t636 => (if t635 > t636 then (numerarylaw02_NatOrder.j0 k t630 (t630 != 1) t612 t618 t624) else (numerarylaw02_NatOrder.j0 k t630 false t612 t618 t624))))) else ((nat_Nat_Bits.f t612).bind fun t637 => ((nat_Nat_Bits.f t618).bind fun t638 => (if t637 > t638 then (numerarylaw02_NatOrder.j0 k t630 (t630 != 1) t612 t618 t624) else (numerarylaw02_NatOrder.j0 k t630 false t612 t618 t624)))))) else (if t630 ≥ 0 then (if t631 ≥ 0 then (if t632 < 0 then (numerarylaw02_NatOrder.j0 k t630 true t612 t618 t624) else ((nat_Nat_Bits.f t612).bind fun t639 => ((nat_Nat_Bits.f t618).bind fun t640 => (if t639 > t640 then (numerarylaw02_NatOrder.j0 k t630 (t630 != 1) t612 t618 t624) else (numerarylaw02_NatOrder.j0 k t630 false t612 t618 t624))))) else ((nat_Nat_Bits.f t612).bind fun t641 => ((nat_Nat_Bits.f t618).bind fun t642 => (if t641 > t642 then (numerarylaw02_NatOrder.j0 k t630 (t630 != 1) t612 t618 t624) else (numerarylaw02_NatOrder.j0 k t630 false t612 t618 t624))))) else ((nat_Nat_Bits.f t612).bind fun t643 => ((nat_Nat_Bits.f t618).bind fun t644 => (if t643 > t644 then (numerarylaw02_NatOrder.j0 k t630 (t630 != 1) t612 t618 t624) else (numerarylaw02_NatOrder.j0 k t630 false t612 t618 t624)))))) else (if t630 ≥ 0 then (if t631 ≥ 0 then (if t632 < 0 then (numerarylaw02_NatOrder.j0 k t630 true t612 t618 t624) else ((nat_Nat_Bits.f t612).bind fun t645 => ((nat_Nat_Bits.f t618).bind fun t646 => (if t645 > t646 then (numerarylaw02_NatOrder.j0 k t630 (t630 != 1) t612 t618 t624) else (numerarylaw02_NatOrder.j0 k t630 false t612 t618 t624))))) else ((nat_Nat_Bits.f t612).bind fun t647 => ((nat_Nat_Bits.f t618).bind fun t648 => (if t647 > t648 then (numerarylaw02_NatOrder.j0 k t630 (t630 != 1) t612 t618 t624) else (numerarylaw02_NatOrder.j0 k t630 false t612 t618 t624))))) else ((nat_Nat_Bits.f t612).bind fun t649 => ((nat_Nat_Bits.f t618).bind fun t650 => (if t649 > t650 then (numerarylaw02_NatOrder.j0 k t630 (t630 != 1) t612 t618 t624) else (numerarylaw02_NatOrder.j0 k t630 false t612 t618 t624))))))))))))))) = some r := h
  clear h
  replace H := Option.bind_eq_some_iff.mp H
  obtain ⟨t609, A40, H⟩ := H
  have A4 := Aside0.mk A40
  clear A40
  replace H := Option.bind_eq_some_iff.mp H
  obtain ⟨t612, A50, H⟩ := H
  have A5 := Aside0.mk A50
  clear A50
  replace H := Option.bind_eq_some_iff.mp H
  obtain ⟨t615, A60, H⟩ := H
  have A6 := Aside0.mk A60
  clear A60
  replace H := Option.bind_eq_some_iff.mp H
  obtain ⟨t618, A70, H⟩ := H
  have A7 := Aside0.mk A70
  clear A70
  replace H := Option.bind_eq_some_iff.mp H
  obtain ⟨t621, A80, H⟩ := H
  have A8 := Aside0.mk A80
  clear A80
  replace H := Option.bind_eq_some_iff.mp H
  obtain ⟨t624, A90, H⟩ := H
  have A9 := Aside0.mk A90
  clear A90
  replace H := Option.bind_eq_some_iff.mp H
  obtain ⟨t630, A100, H⟩ := H
  have A10 := Aside0.mk A100
  clear A100
  replace H := Option.bind_eq_some_iff.mp H
  obtain ⟨t631, A110, H⟩ := H
  have A11 := Aside0.mk A110
  clear A110
  replace H := Option.bind_eq_some_iff.mp H
  obtain ⟨t632, A120, H⟩ := H
  have A12 := Aside0.mk A120
  clear A120
  have HC13 := Aside0.mk H
  clear H
  go_enter Try.func9, Try.ntmps9
  try go_wp2_with (first | ((with_reducible refine gate_callee (f := 30) rfl ?_); refine goesL_ (some 14) rfl rfl Try.func30 (by kernel_rfl) rfl #[.slice A0 l0.length c0] rfl (by (try simp only [List.map_toArray, List.map_cons, List.map_nil]); first | done | rfl | (simp only [List.length_drop, List.length_take]; rfl)) ?_; (with_reducible refine (numerarylaw02_few.calls (fun k_ => k_ < w.heap.size) _ _ l0 t609 _ ?side1 A4.out).mono ?_); (case side1 => exact Kd.V_mk HC0.out (Kd.F_below (Kd.C_F (Kd.heap_int .u32) HR0.out) (by repeat (first | (with_reducible first | exact HB.out | apply below_alloc | apply pw_below_drewN | apply below_drew1) | exact HB.out)))); rintro e w14 ⟨v610, rfl, ho0, hb⟩; refine ⟨_, rfl, ?_⟩; have HO611 := Aside0.mk (Kd.V_lower (Kd.V_mono (ok' := fun k_ => True) ho0 (fun k_ hk_ => trivial)) (below_size (by repeat (first | (with_reducible first | exact HB.out | apply below_alloc | apply pw_below_drewN | apply below_drew1) | exact HB.out)))); replace HB := Aside0.mk (below_step (by repeat (first | (with_reducible first | exact HB.out | apply below_alloc | apply pw_below_drewN | apply below_drew1) | exact HB.out)) hb); obtain ⟨Ao15, co15, eo15⟩ := Kd.V_slice HO611.out; subst eo15) | ((with_reducible refine gate_callee (f := 16) rfl ?_); refine goesL_ (some 15) rfl rfl Try.func16 (by kernel_rfl) rfl #[.slice Ao15 t609.length co15] rfl (by (try simp only [List.map_toArray, List.map_cons, List.map_nil]); first | done | rfl | (simp only [List.length_drop, List.length_take]; rfl)) ?_; (with_reducible refine (nat_Made.calls k _ _ t609 t612 _ ?side1 ?side2 A5.out).mono ?_); (case side1 => exact (Kd.V_reads' HO611.out).2.2); (case side2 => exact (Kd.V_reads' HO611.out).2.1); rintro e w16 ⟨v613, rfl, ho0, hb⟩; refine ⟨_, rfl, ?_⟩; replace HO611 := Aside0.mk (Kd.V_elder' HO611.out (Kd.R_base ho0) hb); have HO614 := Aside0.mk (Kd.R_lower ho0 (below_size (by repeat (first | (with_reducible first | exact HB.out | apply below_alloc | apply pw_below_drewN | apply below_drew1) | exact HB.out)))); replace HB := Aside0.mk (below_step (by repeat (first | (with_reducible first | exact HB.out | apply below_alloc | apply pw_below_drewN | apply below_drew1) | exact HB.out)) hb)) | ((with_reducible refine gate_callee (f := 30) rfl ?_); refine goesL_ (some 17) rfl rfl Try.func30 (by kernel_rfl) rfl #[.slice A1 l1.length c1] rfl (by (try simp only [List.map_toArray, List.map_cons, List.map_nil]); first | done | rfl | (simp only [List.length_drop, List.length_take]; rfl)) ?_; (with_reducible refine (numerarylaw02_few.calls (fun k_ => k_ < w.heap.size) _ _ l1 t615 _ ?side1 A6.out).mono ?_); (case side1 => exact Kd.V_mk HC1.out (Kd.F_below (Kd.C_F (Kd.heap_int .u32) HR1.out) (by repeat (first | (with_reducible first | exact HB.out | apply below_alloc | apply pw_below_drewN | apply below_drew1) | exact HB.out)))); rintro e w17 ⟨v616, rfl, ho0, hb⟩; refine ⟨_, rfl, ?_⟩; replace HO611 := Aside0.mk (Kd.V_below HO611.out hb); have HO617 := Aside0.mk (Kd.V_lower (Kd.V_mono (ok' := fun k_ => some k_ ≠ (v613 : Value).ownBlock) ho0 (fun k_ hk_ => Or.elim hk_ (fun hs_ => fun e_ => Nat.not_le.2 hs_ (Kd.R_base HO614.out k_ e_.symm)) (fun hn_ => (Kd.fresh' (Kd.R_lt HO614.out) k_ hn_)))) (below_size (by repeat (first | (with_reducible first | exact HB.out | apply below_alloc | apply pw_below_drewN | apply below_drew1) | exact HB.out)))); replace HO614 := Aside0.mk (Kd.R_below HO614.out hb); replace HB := Aside0.mk (below_step (by repeat (first | (with_reducible first | exact HB.out | apply below_alloc | apply pw_below_drewN | apply below_drew1) | exact HB.out)) hb); obtain ⟨Ao18, co18, eo18⟩ := Kd.V_slice HO617.out; subst eo18) | ((with_reducible refine gate_callee (f := 16) rfl ?_); refine goesL_ (some 18) rfl rfl Try.func16 (by kernel_rfl) rfl #[.slice Ao18 t615.length co18] rfl (by (try simp only [List.map_toArray, List.map_cons, List.map_nil]); first | done | rfl | (simp only [List.length_drop, List.length_take]; rfl)) ?_; (with_reducible refine (nat_Made.calls k _ _ t615 t618 _ ?side1 ?side2 A7.out).mono ?_); (case side1 => exact (Kd.V_reads' HO617.out).2.2); (case side2 => exact (Kd.V_reads' HO617.out).2.1); rintro e w19 ⟨v619, rfl, ho0, hb⟩; refine ⟨_, rfl, ?_⟩; replace HO611 := Aside0.mk (Kd.V_elder' HO611.out (Kd.R_base ho0) hb); replace HO617 := Aside0.mk (Kd.V_elder' HO617.out (Kd.R_base ho0) hb); have HO620 := Aside0.mk (Kd.R_lower (Kd.R_new' ho0 (Kd.R_lt HO614.out)) (below_size (by repeat (first | (with_reducible first | exact HB.out | apply below_alloc | apply pw_below_drewN | apply below_drew1) | exact HB.out)))); replace HO614 := Aside0.mk (Kd.R_elder' HO614.out (Kd.R_base ho0) hb); replace HB := Aside0.mk (below_step (by repeat (first | (with_reducible first | exact HB.out | apply below_alloc | apply pw_below_drewN | apply below_drew1) | exact HB.out)) hb)) | ((with_reducible refine gate_callee (f := 30) rfl ?_); refine goesL_ (some 20) rfl rfl Try.func30 (by kernel_rfl) rfl #[.slice A2 l2.length c2] rfl (by (try simp only [List.map_toArray, List.map_cons, List.map_nil]); first | done | rfl | (simp only [List.length_drop, List.length_take]; rfl)) ?_; (with_reducible refine (numerarylaw02_few.calls (fun k_ => k_ < w.heap.size) _ _ l2 t621 _ ?side1 A8.out).mono ?_); (case side1 => exact Kd.V_mk HC2.out (Kd.F_below (Kd.C_F (Kd.heap_int .u32) HR2.out) (by repeat (first | (with_reducible first | exact HB.out | apply below_alloc | apply pw_below_drewN | apply below_drew1) | exact HB.out)))); rintro e w20 ⟨v622, rfl, ho0, hb⟩; refine ⟨_, rfl, ?_⟩; replace HO611 := Aside0.mk (Kd.V_below HO611.out hb); replace HO617 := Aside0.mk (Kd.V_below HO617.out hb); have HO623 := Aside0.mk (Kd.V_lower (Kd.V_mono (ok' := fun k_ => some k_ ≠ (v613 : Value).ownBlock ∧ some k_ ≠ (v619 : Value).ownBlock) ho0 (fun k_ hk_ => ⟨Or.elim hk_ (fun hs_ => fun e_ => Nat.not_le.2 hs_ (Kd.R_base HO614.out k_ e_.symm)) (fun hn_ => (Kd.fresh' (Kd.R_lt HO614.out) k_ hn_)), Or.elim hk_ (fun hs_ => fun e_ => Nat.not_le.2 hs_ (Kd.R_base HO620.out k_ e_.symm)) (fun hn_ => (Kd.fresh' (Kd.R_lt HO620.out) k_ hn_))⟩)) (below_size (by repeat (first | (with_reducible first | exact HB.out | apply below_alloc | apply pw_below_drewN | apply below_drew1) | exact HB.out)))); replace HO614 := Aside0.mk (Kd.R_below HO614.out hb); replace HO620 := Aside0.mk (Kd.R_below HO620.out hb); replace HB := Aside0.mk (below_step (by repeat (first | (with_reducible first | exact HB.out | apply below_alloc | apply pw_below_drewN | apply below_drew1) | exact HB.out)) hb); obtain ⟨Ao21, co21, eo21⟩ := Kd.V_slice HO623.out; subst eo21) | ((with_reducible refine gate_callee (f := 16) rfl ?_); refine goesL_ (some 21) rfl rfl Try.func16 (by kernel_rfl) rfl #[.slice Ao21 t621.length co21] rfl (by (try simp only [List.map_toArray, List.map_cons, List.map_nil]); first | done | rfl | (simp only [List.length_drop, List.length_take]; rfl)) ?_; (with_reducible refine (nat_Made.calls k _ _ t621 t624 _ ?side1 ?side2 A9.out).mono ?_); (case side1 => exact (Kd.V_reads' HO623.out).2.2); (case side2 => exact (Kd.V_reads' HO623.out).2.1); rintro e w22 ⟨v625, rfl, ho0, hb⟩; refine ⟨_, rfl, ?_⟩; replace HO611 := Aside0.mk (Kd.V_elder' HO611.out (Kd.R_base ho0) hb); replace HO617 := Aside0.mk (Kd.V_elder' HO617.out (Kd.R_base ho0) hb); replace HO623 := Aside0.mk (Kd.V_elder' HO623.out (Kd.R_base ho0) hb); have HO626 := Aside0.mk (Kd.R_lower (Kd.R_new' (Kd.R_new' ho0 (Kd.R_lt HO614.out)) (Kd.R_lt HO620.out)) (below_size (by repeat (first | (with_reducible first | exact HB.out | apply below_alloc | apply pw_below_drewN | apply below_drew1) | exact HB.out)))); replace HO614 := Aside0.mk (Kd.R_elder' HO614.out (Kd.R_base ho0) hb); replace HO620 := Aside0.mk (Kd.R_elder' HO620.out (Kd.R_base ho0) hb); replace HB := Aside0.mk (below_step (by repeat (first | (with_reducible first | exact HB.out | apply below_alloc | apply pw_below_drewN | apply below_drew1) | exact HB.out)) hb)) | ((with_reducible refine gate_dst (N := 7) rfl ?_); refine box_event ?hg (N := 7) ?hd (cs := #[.slice none 0 0]) (t := 25) ?hr ?_; (case hd => rfl); (case hg => rfl); (case hr => first | (go_simp; done) | (go_simp; rfl)); intro gb627 hg w23 hbox hb; replace HO611 := Aside0.mk (Kd.V_below (Kd.V_elderB HO611.out gb627 (Nat.le_of_eq hg.symm)) hb); replace HO614 := Aside0.mk (Kd.R_below HO614.out hb); replace HO617 := Aside0.mk (Kd.V_below (Kd.V_elderB HO617.out gb627 (Nat.le_of_eq hg.symm)) hb); replace HO620 := Aside0.mk (Kd.R_below HO620.out hb); replace HO623 := Aside0.mk (Kd.V_below (Kd.V_elderB HO623.out gb627 (Nat.le_of_eq hg.symm)) hb); replace HO626 := Aside0.mk (Kd.R_below HO626.out hb); have BK627 := Aside0.mk (hbox); have GW627 := Aside0.mk ((by rw [hg]; exact (below_size (by repeat (first | (with_reducible first | exact HB.out | apply below_alloc | apply pw_below_drewN | apply below_drew1) | exact HB.out))) : w.heap.size ≤ gb627)); have GE627 := Aside0.mk ((by rw [hg]; exact (below_size (by repeat (first | (with_reducible first | exact HB.out | apply below_alloc | apply pw_below_drewN | apply below_drew1) | exact HB.out))) : w.heap.size ≤ gb627)); replace HB := Aside0.mk (below_step (by repeat (first | (with_reducible first | exact HB.out | apply below_alloc | apply pw_below_drewN | apply below_drew1) | exact HB.out)) hb); clear hb hbox hg) | ((with_reducible refine gate_dst (N := 8) rfl ?_); refine box_event ?hg (N := 8) ?hd (cs := #[.slice none 0 0]) (t := 25) ?hr ?_; (case hd => rfl); (case hg => rfl); (case hr => first | (go_simp; done) | (go_simp; rfl)); intro gb628 hg w24 hbox hb; replace HO611 := Aside0.mk (Kd.V_below (Kd.V_elderB HO611.out gb628 (Nat.le_of_eq hg.symm)) hb); replace HO614 := Aside0.mk (Kd.R_below HO614.out hb); replace HO617 := Aside0.mk (Kd.V_below (Kd.V_elderB HO617.out gb628 (Nat.le_of_eq hg.symm)) hb); replace HO620 := Aside0.mk (Kd.R_below HO620.out hb); replace HO623 := Aside0.mk (Kd.V_below (Kd.V_elderB HO623.out gb628 (Nat.le_of_eq hg.symm)) hb); replace HO626 := Aside0.mk (Kd.R_below HO626.out hb); have BK628 := Aside0.mk (hbox); have GW628 := Aside0.mk ((by rw [hg]; exact (below_size (by repeat (first | (with_reducible first | exact HB.out | apply below_alloc | apply pw_below_drewN | apply below_drew1 | refine below_set ?_ GE627.out) | exact HB.out))) : w.heap.size ≤ gb628)); have GE628 := Aside0.mk ((by rw [hg]; exact (below_size (by repeat (first | (with_reducible first | exact HB.out | apply below_alloc | apply pw_below_drewN | apply below_drew1 | refine below_set ?_ GE627.out) | exact HB.out))) : w.heap.size ≤ gb628)); replace HB := Aside0.mk (below_step (by repeat (first | (with_reducible first | exact HB.out | apply below_alloc | apply pw_below_drewN | apply below_drew1 | refine below_set ?_ GE627.out) | exact HB.out)) hb); have NB627_628 := Aside0.mk ((by rw [hg]; exact Nat.ne_of_lt (blk_lt (g := gb627) (o := .cells #[.slice none 0 0] 25 (0, 0)) BK627.out) : gb627 ≠ gb628)); have NB628_627 := Aside0.mk ((by rw [hg]; exact Nat.ne_of_gt (blk_lt (g := gb627) (o := .cells #[.slice none 0 0] 25 (0, 0)) BK627.out) : gb628 ≠ gb627)); replace BK627 := Aside0.mk (blk_below (g := gb627) (o := .cells #[.slice none 0 0] 25 (0, 0)) BK627.out hb); clear hb hbox hg) | ((with_reducible refine gate_dst (N := 9) rfl ?_); refine box_event ?hg (N := 9) ?hd (cs := #[.slice none 0 0]) (t := 25) ?hr ?_; (case hd => rfl); (case hg => rfl); (case hr => first | (go_simp; done) | (go_simp; rfl)); intro gb629 hg w25 hbox hb; replace HO611 := Aside0.mk (Kd.V_below (Kd.V_elderB HO611.out gb629 (Nat.le_of_eq hg.symm)) hb); replace HO614 := Aside0.mk (Kd.R_below HO614.out hb); replace HO617 := Aside0.mk (Kd.V_below (Kd.V_elderB HO617.out gb629 (Nat.le_of_eq hg.symm)) hb); replace HO620 := Aside0.mk (Kd.R_below HO620.out hb); replace HO623 := Aside0.mk (Kd.V_below (Kd.V_elderB HO623.out gb629 (Nat.le_of_eq hg.symm)) hb); replace HO626 := Aside0.mk (Kd.R_below HO626.out hb); have BK629 := Aside0.mk (hbox); have GW629 := Aside0.mk ((by rw [hg]; exact (below_size (by repeat (first | (with_reducible first | exact HB.out | apply below_alloc | apply pw_below_drewN | apply below_drew1 | refine below_set ?_ GE627.out | refine below_set ?_ GE628.out) | exact HB.out))) : w.heap.size ≤ gb629)); have GE629 := Aside0.mk ((by rw [hg]; exact (below_size (by repeat (first | (with_reducible first | exact HB.out | apply below_alloc | apply pw_below_drewN | apply below_drew1 | refine below_set ?_ GE627.out | refine below_set ?_ GE628.out) | exact HB.out))) : w.heap.size ≤ gb629)); replace HB := Aside0.mk (below_step (by repeat (first | (with_reducible first | exact HB.out | apply below_alloc | apply pw_below_drewN | apply below_drew1 | refine below_set ?_ GE627.out | refine below_set ?_ GE628.out) | exact HB.out)) hb); have NB627_629 := Aside0.mk ((by rw [hg]; exact Nat.ne_of_lt (blk_lt (g := gb627) (o := .cells #[.slice none 0 0] 25 (0, 0)) BK627.out) : gb627 ≠ gb629)); have NB629_627 := Aside0.mk ((by rw [hg]; exact Nat.ne_of_gt (blk_lt (g := gb627) (o := .cells #[.slice none 0 0] 25 (0, 0)) BK627.out) : gb629 ≠ gb627)); replace BK627 := Aside0.mk (blk_below (g := gb627) (o := .cells #[.slice none 0 0] 25 (0, 0)) BK627.out hb); have NB628_629 := Aside0.mk ((by rw [hg]; exact Nat.ne_of_lt (blk_lt (g := gb628) (o := .cells #[.slice none 0 0] 25 (0, 0)) BK628.out) : gb628 ≠ gb629)); have NB629_628 := Aside0.mk ((by rw [hg]; exact Nat.ne_of_gt (blk_lt (g := gb628) (o := .cells #[.slice none 0 0] 25 (0, 0)) BK628.out) : gb629 ≠ gb628)); replace BK628 := Aside0.mk (blk_below (g := gb628) (o := .cells #[.slice none 0 0] 25 (0, 0)) BK628.out hb); clear hb hbox hg; obtain ⟨Ao26, co26, eo26⟩ := Kd.R_slice HO614.out; subst eo26; have hnb27 := NB627_628.out; have hnc27 := NB628_627.out; have hnb28 := NB627_629.out; have hnc28 := NB629_627.out; have hcz29_0 : w25.cell? ⟨gb627, 0, none⟩ = some (.slice none 0 0) := (blk_cell BK627.out 0).trans rfl; have hfz29_0 := blk_frozen BK627.out 0; obtain ⟨Ao30, co30, eo30⟩ := Kd.R_slice HO620.out; subst eo30; have hnb31 := NB628_629.out; have hnc31 := NB629_628.out; have hcz32_0 : w25.cell? ⟨gb628, 0, none⟩ = some (.slice none 0 0) := (blk_cell BK628.out 0).trans rfl; have hfz32_0 := blk_frozen BK628.out 0; obtain ⟨Ao33, co33, eo33⟩ := Kd.R_slice HO626.out; subst eo33; have hcz34_0 : w25.cell? ⟨gb629, 0, none⟩ = some (.slice none 0 0) := (blk_cell BK629.out 0).trans rfl; have hfz34_0 := blk_frozen BK629.out 0))
  have n0_ : Aside0 (Kd.V (Kd.int .u32) 23 (((w25.setCell ⟨gb627, 0, none⟩ (.slice Ao26 t612.length co26)).setCell ⟨gb628, 0, none⟩ (.slice Ao30 t618.length co30)).setCell ⟨gb629, 0, none⟩ (.slice Ao33 t624.length co33)) w.heap.size (fun k_ => some k_ ≠ (.slice Ao26 t612.length co26 : Value).ownBlock ∧ some k_ ≠ (.slice Ao30 t618.length co30 : Value).ownBlock ∧ some k_ ≠ (.slice Ao33 t624.length co33 : Value).ownBlock ∧ k_ ≠ gb627 ∧ k_ ≠ gb628 ∧ k_ ≠ gb629) (.slice Ao15 t609.length co15) t609) := ⟨by exact Kd.V_mono (Kd.V_far (p := ⟨gb629, 0, none⟩) (Kd.V_far (p := ⟨gb628, 0, none⟩) (Kd.V_far (p := ⟨gb627, 0, none⟩) (Kd.V_mono (Kd.V_mono (Kd.V_mono HO611.out (fun k_ hk => (⟨hk, hk.1.1.2⟩ : _ ∧ k_ ≠ gb627))) (fun k_ hk => (⟨hk, hk.1.1.2⟩ : _ ∧ k_ ≠ gb628))) (fun k_ hk => (⟨hk, hk.1.1.2⟩ : _ ∧ k_ ≠ gb629))) (fun _ hk => hk.1.1.2) (.slice Ao26 t612.length co26)) (fun _ hk => hk.1.2) (.slice Ao30 t618.length co30)) (fun _ hk => hk.2) (.slice Ao33 t624.length co33)) (fun _ hk => ⟨hk.1.1.1.1.1.1.1.1.2, ⟨hk.1.1.1.1.1.1.1.2, ⟨hk.1.1.1.1.1.1.2, ⟨hk.1.1.1.1.1.2, ⟨hk.1.1.1.1.2, hk.1.1.1.2⟩⟩⟩⟩⟩)⟩
  have n1_ : Aside0 (Kd.R (Kd.int .u32) 23 (((w25.setCell ⟨gb627, 0, none⟩ (.slice Ao26 t612.length co26)).setCell ⟨gb628, 0, none⟩ (.slice Ao30 t618.length co30)).setCell ⟨gb629, 0, none⟩ (.slice Ao33 t624.length co33)) w.heap.size (fun k_ => some k_ ≠ (.slice Ao30 t618.length co30 : Value).ownBlock ∧ some k_ ≠ (.slice Ao33 t624.length co33 : Value).ownBlock) (.slice Ao26 t612.length co26) t612) := ⟨by exact Kd.R_mono (Kd.R_far (p := ⟨gb629, 0, none⟩) (Kd.R_far (p := ⟨gb628, 0, none⟩) (Kd.R_far (p := ⟨gb627, 0, none⟩) (Kd.R_types (Kd.R_types (Kd.R_types HO614.out BK627.out (by decide)) BK628.out (by decide)) BK629.out (by decide)) (fun _ hk => hk.1.1.2) (.slice Ao26 t612.length co26)) (fun _ hk => hk.1.2) (.slice Ao30 t618.length co30)) (fun _ hk => hk.2) (.slice Ao33 t624.length co33)) (fun _ hk => ⟨hk.1.1.1.1.2, hk.1.1.1.2⟩)⟩
  have n2_ : Aside0 (Kd.V (Kd.int .u32) 23 (((w25.setCell ⟨gb627, 0, none⟩ (.slice Ao26 t612.length co26)).setCell ⟨gb628, 0, none⟩ (.slice Ao30 t618.length co30)).setCell ⟨gb629, 0, none⟩ (.slice Ao33 t624.length co33)) w.heap.size (fun k_ => some k_ ≠ (.slice Ao26 t612.length co26 : Value).ownBlock ∧ some k_ ≠ (.slice Ao30 t618.length co30 : Value).ownBlock ∧ some k_ ≠ (.slice Ao33 t624.length co33 : Value).ownBlock ∧ k_ ≠ gb627 ∧ k_ ≠ gb628 ∧ k_ ≠ gb629) (.slice Ao18 t615.length co18) t615) := ⟨by exact Kd.V_mono (Kd.V_far (p := ⟨gb629, 0, none⟩) (Kd.V_far (p := ⟨gb628, 0, none⟩) (Kd.V_far (p := ⟨gb627, 0, none⟩) (Kd.V_mono (Kd.V_mono (Kd.V_mono HO617.out (fun k_ hk => (⟨hk, hk.1.1.2⟩ : _ ∧ k_ ≠ gb627))) (fun k_ hk => (⟨hk, hk.1.1.2⟩ : _ ∧ k_ ≠ gb628))) (fun k_ hk => (⟨hk, hk.1.1.2⟩ : _ ∧ k_ ≠ gb629))) (fun _ hk => hk.1.1.2) (.slice Ao26 t612.length co26)) (fun _ hk => hk.1.2) (.slice Ao30 t618.length co30)) (fun _ hk => hk.2) (.slice Ao33 t624.length co33)) (fun _ hk => ⟨hk.1.1.1.1.1.1.1.1, ⟨hk.1.1.1.1.1.1.1.2, ⟨hk.1.1.1.1.1.1.2, ⟨hk.1.1.1.1.1.2, ⟨hk.1.1.1.1.2, hk.1.1.1.2⟩⟩⟩⟩⟩)⟩
  have n3_ : Aside0 (Kd.R (Kd.int .u32) 23 (((w25.setCell ⟨gb627, 0, none⟩ (.slice Ao26 t612.length co26)).setCell ⟨gb628, 0, none⟩ (.slice Ao30 t618.length co30)).setCell ⟨gb629, 0, none⟩ (.slice Ao33 t624.length co33)) w.heap.size (fun k_ => some k_ ≠ (.slice Ao26 t612.length co26 : Value).ownBlock ∧ some k_ ≠ (.slice Ao33 t624.length co33 : Value).ownBlock) (.slice Ao30 t618.length co30) t618) := ⟨by exact Kd.R_mono (Kd.R_far (p := ⟨gb629, 0, none⟩) (Kd.R_far (p := ⟨gb628, 0, none⟩) (Kd.R_far (p := ⟨gb627, 0, none⟩) (Kd.R_types (Kd.R_types (Kd.R_types HO620.out BK627.out (by decide)) BK628.out (by decide)) BK629.out (by decide)) (fun _ hk => hk.1.1.2) (.slice Ao26 t612.length co26)) (fun _ hk => hk.1.2) (.slice Ao30 t618.length co30)) (fun _ hk => hk.2) (.slice Ao33 t624.length co33)) (fun _ hk => ⟨hk.1.1.1.1.2, hk.1.1.1.2⟩)⟩
  have n4_ : Aside0 (Kd.V (Kd.int .u32) 23 (((w25.setCell ⟨gb627, 0, none⟩ (.slice Ao26 t612.length co26)).setCell ⟨gb628, 0, none⟩ (.slice Ao30 t618.length co30)).setCell ⟨gb629, 0, none⟩ (.slice Ao33 t624.length co33)) w.heap.size (fun k_ => some k_ ≠ (.slice Ao26 t612.length co26 : Value).ownBlock ∧ some k_ ≠ (.slice Ao30 t618.length co30 : Value).ownBlock ∧ some k_ ≠ (.slice Ao33 t624.length co33 : Value).ownBlock ∧ k_ ≠ gb627 ∧ k_ ≠ gb628 ∧ k_ ≠ gb629) (.slice Ao21 t621.length co21) t621) := ⟨by exact Kd.V_mono (Kd.V_far (p := ⟨gb629, 0, none⟩) (Kd.V_far (p := ⟨gb628, 0, none⟩) (Kd.V_far (p := ⟨gb627, 0, none⟩) (Kd.V_mono (Kd.V_mono (Kd.V_mono HO623.out (fun k_ hk => (⟨hk, hk.1.1.2⟩ : _ ∧ k_ ≠ gb627))) (fun k_ hk => (⟨hk, hk.1.1.2⟩ : _ ∧ k_ ≠ gb628))) (fun k_ hk => (⟨hk, hk.1.1.2⟩ : _ ∧ k_ ≠ gb629))) (fun _ hk => hk.1.1.2) (.slice Ao26 t612.length co26)) (fun _ hk => hk.1.2) (.slice Ao30 t618.length co30)) (fun _ hk => hk.2) (.slice Ao33 t624.length co33)) (fun _ hk => ⟨hk.1.1.1.1.1.1.1.1, ⟨hk.1.1.1.1.1.1.1.2, ⟨hk.1.1.1.1.1.1.2, ⟨hk.1.1.1.1.1.2, ⟨hk.1.1.1.1.2, hk.1.1.1.2⟩⟩⟩⟩⟩)⟩
  have n5_ : Aside0 (Kd.R (Kd.int .u32) 23 (((w25.setCell ⟨gb627, 0, none⟩ (.slice Ao26 t612.length co26)).setCell ⟨gb628, 0, none⟩ (.slice Ao30 t618.length co30)).setCell ⟨gb629, 0, none⟩ (.slice Ao33 t624.length co33)) w.heap.size (fun k_ => some k_ ≠ (.slice Ao26 t612.length co26 : Value).ownBlock ∧ some k_ ≠ (.slice Ao30 t618.length co30 : Value).ownBlock) (.slice Ao33 t624.length co33) t624) := ⟨by exact Kd.R_mono (Kd.R_far (p := ⟨gb629, 0, none⟩) (Kd.R_far (p := ⟨gb628, 0, none⟩) (Kd.R_far (p := ⟨gb627, 0, none⟩) (Kd.R_types (Kd.R_types (Kd.R_types HO626.out BK627.out (by decide)) BK628.out (by decide)) BK629.out (by decide)) (fun _ hk => hk.1.1.2) (.slice Ao26 t612.length co26)) (fun _ hk => hk.1.2) (.slice Ao30 t618.length co30)) (fun _ hk => hk.2) (.slice Ao33 t624.length co33)) (fun _ hk => ⟨hk.1.1.1.1.2, hk.1.1.1.2⟩)⟩
  have n6_ : Aside0 ((((w25.setCell ⟨gb627, 0, none⟩ (.slice Ao26 t612.length co26)).setCell ⟨gb628, 0, none⟩ (.slice Ao30 t618.length co30)).setCell ⟨gb629, 0, none⟩ (.slice Ao33 t624.length co33)).heap[gb627]? = some (.cells #[.slice Ao26 t612.length co26] 25 (0, 0))) := ⟨by (with_reducible repeat (first | refine blk_drewN ?_ _ | refine blk_drew ?_ | refine blk_alloc ?_ _)); refine blk_far ?_ NB627_629.out _; (with_reducible repeat (first | refine blk_drewN ?_ _ | refine blk_drew ?_ | refine blk_alloc ?_ _)); refine blk_far ?_ NB627_628.out _; (with_reducible repeat (first | refine blk_drewN ?_ _ | refine blk_drew ?_ | refine blk_alloc ?_ _)); refine blk_put (cs := #[.slice none 0 0]) ?_ 0 _ rfl; (with_reducible repeat (first | refine blk_drewN ?_ _ | refine blk_drew ?_ | refine blk_alloc ?_ _)); exact BK627.out⟩
  have n7_ : Aside0 ((((w25.setCell ⟨gb627, 0, none⟩ (.slice Ao26 t612.length co26)).setCell ⟨gb628, 0, none⟩ (.slice Ao30 t618.length co30)).setCell ⟨gb629, 0, none⟩ (.slice Ao33 t624.length co33)).heap[gb628]? = some (.cells #[.slice Ao30 t618.length co30] 25 (0, 0))) := ⟨by (with_reducible repeat (first | refine blk_drewN ?_ _ | refine blk_drew ?_ | refine blk_alloc ?_ _)); refine blk_far ?_ NB628_629.out _; (with_reducible repeat (first | refine blk_drewN ?_ _ | refine blk_drew ?_ | refine blk_alloc ?_ _)); refine blk_put (cs := #[.slice none 0 0]) ?_ 0 _ rfl; (with_reducible repeat (first | refine blk_drewN ?_ _ | refine blk_drew ?_ | refine blk_alloc ?_ _)); refine blk_far ?_ NB628_627.out _; (with_reducible repeat (first | refine blk_drewN ?_ _ | refine blk_drew ?_ | refine blk_alloc ?_ _)); exact BK628.out⟩
  have n8_ : Aside0 ((((w25.setCell ⟨gb627, 0, none⟩ (.slice Ao26 t612.length co26)).setCell ⟨gb628, 0, none⟩ (.slice Ao30 t618.length co30)).setCell ⟨gb629, 0, none⟩ (.slice Ao33 t624.length co33)).heap[gb629]? = some (.cells #[.slice Ao33 t624.length co33] 25 (0, 0))) := ⟨by (with_reducible repeat (first | refine blk_drewN ?_ _ | refine blk_drew ?_ | refine blk_alloc ?_ _)); refine blk_put (cs := #[.slice none 0 0]) ?_ 0 _ rfl; (with_reducible repeat (first | refine blk_drewN ?_ _ | refine blk_drew ?_ | refine blk_alloc ?_ _)); refine blk_far ?_ NB629_628.out _; (with_reducible repeat (first | refine blk_drewN ?_ _ | refine blk_drew ?_ | refine blk_alloc ?_ _)); refine blk_far ?_ NB629_627.out _; (with_reducible repeat (first | refine blk_drewN ?_ _ | refine blk_drew ?_ | refine blk_alloc ?_ _)); exact BK629.out⟩
  have n9_ : Aside0 (Below w.heap.size w (((w25.setCell ⟨gb627, 0, none⟩ (.slice Ao26 t612.length co26)).setCell ⟨gb628, 0, none⟩ (.slice Ao30 t618.length co30)).setCell ⟨gb629, 0, none⟩ (.slice Ao33 t624.length co33))) := ⟨by repeat (first | (with_reducible first | exact HB.out | apply below_alloc | apply pw_below_drewN | apply below_drew1 | refine below_set ?_ GE627.out | refine below_set ?_ GE628.out | refine below_set ?_ GE629.out) | exact HB.out)⟩
  (try clear HO611)
  (try clear HO614)
  (try clear HO617)
  (try clear HO620)
  (try clear HO623)
  (try clear HO626)
  (try clear BK627)
  (try clear BK628)
  (try clear BK629)
  (try clear HB)
  generalize (((w25.setCell ⟨gb627, 0, none⟩ (.slice Ao26 t612.length co26)).setCell ⟨gb628, 0, none⟩ (.slice Ao30 t618.length co30)).setCell ⟨gb629, 0, none⟩ (.slice Ao33 t624.length co33)) = w35 at n0_ n1_ n2_ n3_ n4_ n5_ n6_ n7_ n8_ n9_ ⊢
  have HO611 := n0_
  have HO614 := n1_
  have HO617 := n2_
  have HO620 := n3_
  have HO623 := n4_
  have HO626 := n5_
  have BK627 := n6_
  have BK628 := n7_
  have BK629 := n8_
  have HB := n9_
  clear n0_ n1_ n2_ n3_ n4_ n5_ n6_ n7_ n8_ n9_
  replace HO611 := Aside0.mk (Kd.V_drew HO611.out)
  replace HO614 := Aside0.mk (Kd.R_drew HO614.out)
  replace HO617 := Aside0.mk (Kd.V_drew HO617.out)
  replace HO620 := Aside0.mk (Kd.R_drew HO620.out)
  replace HO623 := Aside0.mk (Kd.V_drew HO623.out)
  replace HO626 := Aside0.mk (Kd.R_drew HO626.out)
  replace BK627 := Aside0.mk (blk_drew BK627.out)
  replace BK628 := Aside0.mk (blk_drew BK628.out)
  replace BK629 := Aside0.mk (blk_drew BK629.out)
  replace HB := Aside0.mk (below_drew1 HB.out)
  refine start_ (n := 12) (S := fun w' => w'.cell? ⟨gb627, 0, none⟩ = some (.slice Ao26 t612.length co26) ∧ w'.cell? ⟨gb628, 0, none⟩ = some (.slice Ao30 t618.length co30) ∧ w'.cell? ⟨gb629, 0, none⟩ = some (.slice Ao33 t624.length co33)) (ds := []) #[false, false, false, false, false, false, false, false, false, false, false, false] (by kernel_rfl) rfl rfl ⟨(blk_cell BK627.out 0).trans rfl, (blk_cell BK628.out 0).trans rfl, (blk_cell BK629.out 0).trans rfl⟩ (fun hHeld => ?_); refine with_tabW numerarylaw02_NatOrder.tab2 numerarylaw02_NatOrder.bits2 (fun HT_ HW_ => ?_)
  generalize w35.drew = w36 at HO611 HO614 HO617 HO620 HO623 HO626 BK627 BK628 BK629 HB hHeld ⊢
  refine take_ (i := 0) (N := some 22) (v := ?_) (a' := ?_) #[true, false, false, false, false, false, false, false, false, false, false, false] rfl rfl (take_ofW HT_.out HW_.out (by kernel_rfl)) (fun _ _ _ h => h) (Or.inl ⟨by rfl, ?_⟩) hHeld ?_ ?_
  rotate_left
  · rintro w' ⟨s0, s1, s2⟩
    go_simp
    with_reducible rfl
  rotate_left
  · simp only [Act.put, List.setIfInBounds_toArray, List.set_cons_zero, List.set_cons_succ, i64_w, i32_w]
    rfl
  refine take_ (i := 1) (N := some 23) (v := ?_) (a' := ?_) #[true, true, false, false, false, false, false, false, false, false, false, false] rfl rfl (take_ofW HT_.out HW_.out (by kernel_rfl)) (fun _ _ _ h => h) (Or.inl ⟨by rfl, ?_⟩) hHeld ?_ ?_
  rotate_left
  · rintro w' ⟨s0, s1, s2⟩
    go_simp
    with_reducible rfl
  rotate_left
  · simp only [Act.put, List.setIfInBounds_toArray, List.set_cons_zero, List.set_cons_succ, i64_w, i32_w]
    rfl
  refine take_ (i := 3) (N := some 25) (v := ?_) (a' := ?_) #[true, true, false, true, false, false, false, false, false, false, false, false] rfl rfl (take_ofW HT_.out HW_.out (by kernel_rfl)) (fun _ _ _ h => h) (Or.inl ⟨by rfl, ?_⟩) hHeld ?_ ?_
  rotate_left
  · rintro w' ⟨s0, s1, s2⟩
    go_simp
    with_reducible rfl
  rotate_left
  · simp only [Act.put, List.setIfInBounds_toArray, List.set_cons_zero, List.set_cons_succ, i64_w, i32_w]
    rfl
  refine take_ (i := 4) (N := some 26) (v := ?_) (a' := ?_) #[true, true, false, true, true, false, false, false, false, false, false, false] rfl rfl (take_ofW HT_.out HW_.out (by kernel_rfl)) (fun _ _ _ h => h) (Or.inl ⟨by rfl, ?_⟩) hHeld ?_ ?_
  rotate_left
  · rintro w' ⟨s0, s1, s2⟩
    go_simp
    with_reducible rfl
  rotate_left
  · simp only [Act.put, List.setIfInBounds_toArray, List.set_cons_zero, List.set_cons_succ, i64_w, i32_w]
    rfl
  refine take_ (i := 6) (N := some 28) (v := ?_) (a' := ?_) #[true, true, false, true, true, false, true, false, false, false, false, false] rfl rfl (take_ofW HT_.out HW_.out (by kernel_rfl)) (fun _ _ _ h => h) (Or.inl ⟨by rfl, ?_⟩) hHeld ?_ ?_
  rotate_left
  · rintro w' ⟨s0, s1, s2⟩
    go_simp
    with_reducible rfl
  rotate_left
  · simp only [Act.put, List.setIfInBounds_toArray, List.set_cons_zero, List.set_cons_succ, i64_w, i32_w]
    rfl
  refine take_ (i := 7) (N := some 29) (v := ?_) (a' := ?_) #[true, true, false, true, true, false, true, true, false, false, false, false] rfl rfl (take_ofW HT_.out HW_.out (by kernel_rfl)) (fun _ _ _ h => h) (Or.inl ⟨by rfl, ?_⟩) hHeld ?_ ?_
  rotate_left
  · rintro w' ⟨s0, s1, s2⟩
    go_simp
    with_reducible rfl
  rotate_left
  · simp only [Act.put, List.setIfInBounds_toArray, List.set_cons_zero, List.set_cons_succ, i64_w, i32_w]
    rfl
  refine one_ (i := 2) (N := some 24) #[true, true, true, true, true, false, true, true, false, false, false, false] rfl rfl (one_of HT_.out (by kernel_rfl)) (by decide) (fun K hK => ?_)
  refine goes_ Try.func37 (by kernel_rfl) rfl #[.agg #[.slice Ao26 t612.length co26], .agg #[.slice Ao30 t618.length co30]] (by rfl) rfl rfl (by (try simp only [List.map_toArray, List.map_cons, List.map_nil]); first | done | rfl | (simp only [List.length_drop, List.length_take]; rfl)) ?_
  with_reducible refine (nat_Cmp.calls k _ _ t612 _ _ t618 t630 _ ?side1 ?side2 ?side3 ?side4 A10.out).mono ?_
  (case side1 => exact (Kd.R_reads' HO614.out).2.2)
  (case side2 => exact (Kd.R_reads' HO614.out).2.1)
  (case side3 => exact (Kd.R_reads' HO620.out).2.2)
  (case side4 => exact (Kd.R_reads' HO620.out).2.1)
  rintro e w37 ⟨rfl, hb⟩
  refine ⟨_, rfl, ?_⟩
  replace HO611 := Aside0.mk (Kd.V_below HO611.out hb)
  replace HO614 := Aside0.mk (Kd.R_below HO614.out hb)
  replace HO617 := Aside0.mk (Kd.V_below HO617.out hb)
  replace HO620 := Aside0.mk (Kd.R_below HO620.out hb)
  replace HO623 := Aside0.mk (Kd.V_below HO623.out hb)
  replace HO626 := Aside0.mk (Kd.R_below HO626.out hb)
  replace BK627 := Aside0.mk (blk_below (g := gb627) (o := .cells #[.slice Ao26 t612.length co26] 25 (0, 0)) BK627.out hb)
  replace BK628 := Aside0.mk (blk_below (g := gb628) (o := .cells #[.slice Ao30 t618.length co30] 25 (0, 0)) BK628.out hb)
  replace BK629 := Aside0.mk (blk_below (g := gb629) (o := .cells #[.slice Ao33 t624.length co33] 25 (0, 0)) BK629.out hb)
  replace HB := Aside0.mk (below_step (by repeat (first | (with_reducible first | exact HB.out | apply below_alloc | apply pw_below_drewN | apply below_drew1 | refine below_set ?_ GE627.out | refine below_set ?_ GE628.out | refine below_set ?_ GE629.out) | exact HB.out)) hb)
  (try clear hb)
  (try clear hb2)
  (try clear hk)
  (try clear hi)
  refine hK.out _ _ ⟨(blk_cell BK627.out 0).trans rfl, (blk_cell BK628.out 0).trans rfl, (blk_cell BK629.out 0).trans rfl⟩ (fun hHeld => ?_)
  clear hK K
  refine norm_ (a' := ?_) ?_ ?_
  rotate_left
  · show Act.put _ (some 24) _ = _
    simp only [Act.put, List.setIfInBounds_toArray, List.set_cons_zero, List.set_cons_succ, i64_w, i32_w]
    rfl
  refine one_ (i := 5) (N := some 27) #[true, true, true, true, true, true, true, true, false, false, false, false] rfl rfl (one_of HT_.out (by kernel_rfl)) (by decide) (fun K hK => ?_)
  refine goes_ Try.func37 (by kernel_rfl) rfl #[.agg #[.slice Ao30 t618.length co30], .agg #[.slice Ao33 t624.length co33]] (by rfl) rfl rfl (by (try simp only [List.map_toArray, List.map_cons, List.map_nil]); first | done | rfl | (simp only [List.length_drop, List.length_take]; rfl)) ?_
  with_reducible refine (nat_Cmp.calls k _ _ t618 _ _ t624 t631 _ ?side1 ?side2 ?side3 ?side4 A11.out).mono ?_
  (case side1 => exact (Kd.R_reads' HO620.out).2.2)
  (case side2 => exact (Kd.R_reads' HO620.out).2.1)
  (case side3 => exact (Kd.R_reads' HO626.out).2.2)
  (case side4 => exact (Kd.R_reads' HO626.out).2.1)
  rintro e w38 ⟨rfl, hb⟩
  refine ⟨_, rfl, ?_⟩
  replace HO611 := Aside0.mk (Kd.V_below HO611.out hb)
  replace HO614 := Aside0.mk (Kd.R_below HO614.out hb)
  replace HO617 := Aside0.mk (Kd.V_below HO617.out hb)
  replace HO620 := Aside0.mk (Kd.R_below HO620.out hb)
  replace HO623 := Aside0.mk (Kd.V_below HO623.out hb)
  replace HO626 := Aside0.mk (Kd.R_below HO626.out hb)
  replace BK627 := Aside0.mk (blk_below (g := gb627) (o := .cells #[.slice Ao26 t612.length co26] 25 (0, 0)) BK627.out hb)
  replace BK628 := Aside0.mk (blk_below (g := gb628) (o := .cells #[.slice Ao30 t618.length co30] 25 (0, 0)) BK628.out hb)
  replace BK629 := Aside0.mk (blk_below (g := gb629) (o := .cells #[.slice Ao33 t624.length co33] 25 (0, 0)) BK629.out hb)
  replace HB := Aside0.mk (below_step (by repeat (first | (with_reducible first | exact HB.out | apply below_alloc | apply pw_below_drewN | apply below_drew1 | refine below_set ?_ GE627.out | refine below_set ?_ GE628.out | refine below_set ?_ GE629.out) | exact HB.out)) hb)
  (try clear hb)
  (try clear hb2)
  (try clear hk)
  (try clear hi)
  refine hK.out _ _ ⟨(blk_cell BK627.out 0).trans rfl, (blk_cell BK628.out 0).trans rfl, (blk_cell BK629.out 0).trans rfl⟩ (fun hHeld => ?_)
  clear hK K
  refine norm_ (a' := ?_) ?_ ?_
  rotate_left
  · show Act.put _ (some 27) _ = _
    simp only [Act.put, List.setIfInBounds_toArray, List.set_cons_zero, List.set_cons_succ, i64_w, i32_w]
    rfl
  refine one_ (i := 8) (N := some 30) #[true, true, true, true, true, true, true, true, true, false, false, false] rfl rfl (one_of HT_.out (by kernel_rfl)) (by decide) (fun K hK => ?_)
  refine goes_ Try.func37 (by kernel_rfl) rfl #[.agg #[.slice Ao26 t612.length co26], .agg #[.slice Ao33 t624.length co33]] (by rfl) rfl rfl (by (try simp only [List.map_toArray, List.map_cons, List.map_nil]); first | done | rfl | (simp only [List.length_drop, List.length_take]; rfl)) ?_
  with_reducible refine (nat_Cmp.calls k _ _ t612 _ _ t624 t632 _ ?side1 ?side2 ?side3 ?side4 A12.out).mono ?_
  (case side1 => exact (Kd.R_reads' HO614.out).2.2)
  (case side2 => exact (Kd.R_reads' HO614.out).2.1)
  (case side3 => exact (Kd.R_reads' HO626.out).2.2)
  (case side4 => exact (Kd.R_reads' HO626.out).2.1)
  rintro e w39 ⟨rfl, hb⟩
  refine ⟨_, rfl, ?_⟩
  replace HO611 := Aside0.mk (Kd.V_below HO611.out hb)
  replace HO614 := Aside0.mk (Kd.R_below HO614.out hb)
  replace HO617 := Aside0.mk (Kd.V_below HO617.out hb)
  replace HO620 := Aside0.mk (Kd.R_below HO620.out hb)
  replace HO623 := Aside0.mk (Kd.V_below HO623.out hb)
  replace HO626 := Aside0.mk (Kd.R_below HO626.out hb)
  replace BK627 := Aside0.mk (blk_below (g := gb627) (o := .cells #[.slice Ao26 t612.length co26] 25 (0, 0)) BK627.out hb)
  replace BK628 := Aside0.mk (blk_below (g := gb628) (o := .cells #[.slice Ao30 t618.length co30] 25 (0, 0)) BK628.out hb)
  replace BK629 := Aside0.mk (blk_below (g := gb629) (o := .cells #[.slice Ao33 t624.length co33] 25 (0, 0)) BK629.out hb)
  replace HB := Aside0.mk (below_step (by repeat (first | (with_reducible first | exact HB.out | apply below_alloc | apply pw_below_drewN | apply below_drew1 | refine below_set ?_ GE627.out | refine below_set ?_ GE628.out | refine below_set ?_ GE629.out) | exact HB.out)) hb)
  (try clear hb)
  (try clear hb2)
  (try clear hk)
  (try clear hi)
  refine hK.out _ _ ⟨(blk_cell BK627.out 0).trans rfl, (blk_cell BK628.out 0).trans rfl, (blk_cell BK629.out 0).trans rfl⟩ (fun hHeld => ?_)
  clear hK K
  refine norm_ (a' := ?_) ?_ ?_
  rotate_left
  · show Act.put _ (some 30) _ = _
    simp only [Act.put, List.setIfInBounds_toArray, List.set_cons_zero, List.set_cons_succ, i64_w, i32_w]
    rfl
  refine pureA 9 10 HT_.out ?_
  refine pureA 10 11 HT_.out ?_
  refine pureA 11 12 HT_.out ?_
  refine done_ (done_of HT_.out (by kernel_rfl)) ?_
  go_upto_region 3 with (fail)
  go_cut [63] (fun v63 wc => ∃ (kq : Nat) (x63_12 : Bool), v63 = .bool x63_12 ∧ Aside0 (numerarylaw02_NatOrder.j0 kq t630 x63_12 t612 t618 t624 = some r) ∧ Aside0 (kq ≤ k) ∧ Aside0 (Kd.R (Kd.int .u32) 23 wc w.heap.size (fun k_ => some k_ ≠ ((.slice Ao30 t618.length co30) : Value).ownBlock ∧ some k_ ≠ ((.slice Ao33 t624.length co33) : Value).ownBlock) (.slice Ao26 t612.length co26) t612) ∧ Aside0 (Kd.R (Kd.int .u32) 23 wc w.heap.size (fun k_ => some k_ ≠ ((.slice Ao26 t612.length co26) : Value).ownBlock ∧ some k_ ≠ ((.slice Ao33 t624.length co33) : Value).ownBlock) (.slice Ao30 t618.length co30) t618) ∧ Aside0 (Kd.R (Kd.int .u32) 23 wc w.heap.size (fun k_ => some k_ ≠ ((.slice Ao26 t612.length co26) : Value).ownBlock ∧ some k_ ≠ ((.slice Ao30 t618.length co30) : Value).ownBlock) (.slice Ao33 t624.length co33) t624) ∧ Aside0 (wc.heap[gb627]? = some (.cells #[(.slice Ao26 t612.length co26)] 25 (0, 0))) ∧ Aside0 (wc.heap[gb628]? = some (.cells #[(.slice Ao30 t618.length co30)] 25 (0, 0))) ∧ Aside0 (wc.heap[gb629]? = some (.cells #[(.slice Ao33 t624.length co33)] 25 (0, 0))) ∧ Aside0 (Below w.heap.size w wc))
  case first =>
    have H := HC13.out
    clear HC13
    by_cases c40 : t630 ≤ 0
    rotate_left
    · rw [if_neg c40] at H
      have c40b0 : decide (t630 ≤ 0) = false := decide_eq_false c40
      clear c40
      (first | rw [c40b0] | (simp only [i64_w, i32_w]; rw [c40b0]) | skip)
      by_cases c106 : t630 ≥ 0
      rotate_left
      · rw [if_neg c106] at H
        have c106b0 : decide (0 ≤ t630) = false := decide_eq_false c106
        clear c106
        replace H := Option.bind_eq_some_iff.mp H
        obtain ⟨t649, A1280, H⟩ := H
        have A128 := Aside0.mk A1280
        clear A1280
        replace H := Option.bind_eq_some_iff.mp H
        obtain ⟨t650, A1290, H⟩ := H
        have A129 := Aside0.mk A1290
        clear A1290
        by_cases c130 : t649 > t650
        · rw [if_pos c130] at H
          have c130b0 : decide (t650 < t649) = true := decide_eq_true c130
          clear c130
          have H' := Aside0.mk H
          clear H
          try go_wp2
          replace HO611 := Aside0.mk (Kd.V_drew HO611.out)
          replace HO614 := Aside0.mk (Kd.R_drew HO614.out)
          replace HO617 := Aside0.mk (Kd.V_drew HO617.out)
          replace HO620 := Aside0.mk (Kd.R_drew HO620.out)
          replace HO623 := Aside0.mk (Kd.V_drew HO623.out)
          replace HO626 := Aside0.mk (Kd.R_drew HO626.out)
          replace BK627 := Aside0.mk (blk_drew BK627.out)
          replace BK628 := Aside0.mk (blk_drew BK628.out)
          replace BK629 := Aside0.mk (blk_drew BK629.out)
          replace HB := Aside0.mk (below_drew1 HB.out)
          refine start_ (n := 33) (S := fun w' => w'.cell? ⟨gb627, 0, none⟩ = some (.slice Ao26 t612.length co26) ∧ w'.cell? ⟨gb628, 0, none⟩ = some (.slice Ao30 t618.length co30)) (ds := []) #[false, false, false, false, false, false, false, false, false, false, false, false, false, false, false, false, false, false, false, false, false, false, false, false, false, false, false, false, false, false, false, false, false] (by kernel_rfl) rfl rfl ⟨(blk_cell BK627.out 0).trans rfl, (blk_cell BK628.out 0).trans rfl⟩ (fun hHeld => ?_); refine with_tabW numerarylaw02_NatOrder.tab3 numerarylaw02_NatOrder.bits3 (fun HT_ HW_ => ?_)
          generalize w39.drew = w131 at HO611 HO614 HO617 HO620 HO623 HO626 BK627 BK628 BK629 HB hHeld ⊢
          refine pureA 0 31 HT_.out ?_
          refine pureA 1 32 HT_.out ?_
          refine pureA 2 33 HT_.out ?_
          refine pureN 3 34 HT_.out ?_
          refine pureN 4 35 HT_.out ?_
          refine pureA 5 36 HT_.out ?_
          refine pureA 6 37 HT_.out ?_
          refine pureN 7 38 HT_.out ?_
          refine pureN 8 39 HT_.out ?_
          refine pureA 9 40 HT_.out ?_
          refine pureA 10 41 HT_.out ?_
          refine pureA 11 42 HT_.out ?_
          refine pureA 12 43 HT_.out ?_
          refine pureA 13 44 HT_.out ?_
          refine pureN 14 45 HT_.out ?_
          refine pureN 15 46 HT_.out ?_
          refine pureA 16 47 HT_.out ?_
          refine pureA 17 48 HT_.out ?_
          refine pureN 18 49 HT_.out ?_
          refine pureN 19 50 HT_.out ?_
          refine pureA 20 51 HT_.out ?_
          refine pureA 21 52 HT_.out ?_
          refine pureA 22 53 HT_.out ?_
          refine take_ (i := 23) (N := some 54) (v := ?_) (a' := ?_) #[true, true, true, true, true, true, true, true, true, true, true, true, true, true, true, true, true, true, true, true, true, true, true, true, false, false, false, false, false, false, false, false, false] rfl rfl (take_ofW HT_.out HW_.out (by kernel_rfl)) (fun _ _ _ h => h) (Or.inl ⟨by rfl, ?_⟩) hHeld ?_ ?_
          rotate_left
          · rintro w' ⟨s0, s1⟩
            go_simp
            with_reducible rfl
          rotate_left
          · simp only [Act.put, List.setIfInBounds_toArray, List.set_cons_zero, List.set_cons_succ, i64_w, i32_w]
            rfl
          refine take_ (i := 25) (N := some 56) (v := ?_) (a' := ?_) #[true, true, true, true, true, true, true, true, true, true, true, true, true, true, true, true, true, true, true, true, true, true, true, true, false, true, false, false, false, false, false, false, false] rfl rfl (take_ofW HT_.out HW_.out (by kernel_rfl)) (fun _ _ _ h => h) (Or.inl ⟨by rfl, ?_⟩) hHeld ?_ ?_
          rotate_left
          · rintro w' ⟨s0, s1⟩
            go_simp
            with_reducible rfl
          rotate_left
          · simp only [Act.put, List.setIfInBounds_toArray, List.set_cons_zero, List.set_cons_succ, i64_w, i32_w]
            rfl
          refine one_ (i := 24) (N := some 55) #[true, true, true, true, true, true, true, true, true, true, true, true, true, true, true, true, true, true, true, true, true, true, true, true, true, true, false, false, false, false, false, false, false] rfl rfl (one_of HT_.out (by kernel_rfl)) (by decide) (fun K hK => ?_)
          refine goes_ Try.func33 (by kernel_rfl) rfl #[.agg #[.slice Ao26 t612.length co26]] (by rfl) rfl rfl (by (try simp only [List.map_toArray, List.map_cons, List.map_nil]); first | done | rfl | (simp only [List.length_drop, List.length_take]; rfl)) ?_
          with_reducible refine (nat_Nat_Bits.calls _ _ t612 t649 _ ?side1 ?side2 A128.out).mono ?_
          (case side1 => exact (Kd.R_reads' HO614.out).2.2)
          (case side2 => exact (Kd.R_reads' HO614.out).2.1)
          rintro e w132 ⟨rfl, hb⟩
          refine ⟨_, rfl, ?_⟩
          replace HO611 := Aside0.mk (Kd.V_below HO611.out hb)
          replace HO614 := Aside0.mk (Kd.R_below HO614.out hb)
          replace HO617 := Aside0.mk (Kd.V_below HO617.out hb)
          replace HO620 := Aside0.mk (Kd.R_below HO620.out hb)
          replace HO623 := Aside0.mk (Kd.V_below HO623.out hb)
          replace HO626 := Aside0.mk (Kd.R_below HO626.out hb)
          replace BK627 := Aside0.mk (blk_below (g := gb627) (o := .cells #[.slice Ao26 t612.length co26] 25 (0, 0)) BK627.out hb)
          replace BK628 := Aside0.mk (blk_below (g := gb628) (o := .cells #[.slice Ao30 t618.length co30] 25 (0, 0)) BK628.out hb)
          replace BK629 := Aside0.mk (blk_below (g := gb629) (o := .cells #[.slice Ao33 t624.length co33] 25 (0, 0)) BK629.out hb)
          replace HB := Aside0.mk (below_step (by repeat (first | (with_reducible first | exact HB.out | apply below_alloc | apply pw_below_drewN | apply below_drew1 | refine below_set ?_ GE627.out | refine below_set ?_ GE628.out | refine below_set ?_ GE629.out) | exact HB.out)) hb)
          (try clear hb)
          (try clear hb2)
          (try clear hk)
          (try clear hi)
          refine hK.out _ _ ⟨(blk_cell BK627.out 0).trans rfl, (blk_cell BK628.out 0).trans rfl⟩ (fun hHeld => ?_)
          clear hK K
          refine norm_ (a' := ?_) ?_ ?_
          rotate_left
          · show Act.put _ (some 55) _ = _
            simp only [Act.put, List.setIfInBounds_toArray, List.set_cons_zero, List.set_cons_succ, i64_w, i32_w]
            rfl
          refine one_ (i := 26) (N := some 57) #[true, true, true, true, true, true, true, true, true, true, true, true, true, true, true, true, true, true, true, true, true, true, true, true, true, true, true, false, false, false, false, false, false] rfl rfl (one_of HT_.out (by kernel_rfl)) (by decide) (fun K hK => ?_)
          refine goes_ Try.func33 (by kernel_rfl) rfl #[.agg #[.slice Ao30 t618.length co30]] (by rfl) rfl rfl (by (try simp only [List.map_toArray, List.map_cons, List.map_nil]); first | done | rfl | (simp only [List.length_drop, List.length_take]; rfl)) ?_
          with_reducible refine (nat_Nat_Bits.calls _ _ t618 t650 _ ?side1 ?side2 A129.out).mono ?_
          (case side1 => exact (Kd.R_reads' HO620.out).2.2)
          (case side2 => exact (Kd.R_reads' HO620.out).2.1)
          rintro e w133 ⟨rfl, hb⟩
          refine ⟨_, rfl, ?_⟩
          replace HO611 := Aside0.mk (Kd.V_below HO611.out hb)
          replace HO614 := Aside0.mk (Kd.R_below HO614.out hb)
          replace HO617 := Aside0.mk (Kd.V_below HO617.out hb)
          replace HO620 := Aside0.mk (Kd.R_below HO620.out hb)
          replace HO623 := Aside0.mk (Kd.V_below HO623.out hb)
          replace HO626 := Aside0.mk (Kd.R_below HO626.out hb)
          replace BK627 := Aside0.mk (blk_below (g := gb627) (o := .cells #[.slice Ao26 t612.length co26] 25 (0, 0)) BK627.out hb)
          replace BK628 := Aside0.mk (blk_below (g := gb628) (o := .cells #[.slice Ao30 t618.length co30] 25 (0, 0)) BK628.out hb)
          replace BK629 := Aside0.mk (blk_below (g := gb629) (o := .cells #[.slice Ao33 t624.length co33] 25 (0, 0)) BK629.out hb)
          replace HB := Aside0.mk (below_step (by repeat (first | (with_reducible first | exact HB.out | apply below_alloc | apply pw_below_drewN | apply below_drew1 | refine below_set ?_ GE627.out | refine below_set ?_ GE628.out | refine below_set ?_ GE629.out) | exact HB.out)) hb)
          (try clear hb)
          (try clear hb2)
          (try clear hk)
          (try clear hi)
          refine hK.out _ _ ⟨(blk_cell BK627.out 0).trans rfl, (blk_cell BK628.out 0).trans rfl⟩ (fun hHeld => ?_)
          clear hK K
          refine norm_ (a' := ?_) ?_ ?_
          rotate_left
          · show Act.put _ (some 57) _ = _
            simp only [Act.put, List.setIfInBounds_toArray, List.set_cons_zero, List.set_cons_succ, i64_w, i32_w]
            rfl
          refine pureA 27 58 HT_.out ?_
          refine pureA 28 59 HT_.out ?_
          refine pureA 29 60 HT_.out ?_
          refine pureA 30 61 HT_.out ?_
          refine pureA 31 62 HT_.out ?_
          refine pureA 32 63 HT_.out ?_
          refine done_ (done_of HT_.out (by kernel_rfl)) ?_
          try go_wp2
          go_meet
          case rel => exact ⟨_, ((t630 != 1)), rfl, H', ⟨by first | omega | exact Nat.le_refl _⟩, ⟨HO614.out⟩, ⟨HO620.out⟩, ⟨HO626.out⟩, ⟨BK627.out⟩, ⟨BK628.out⟩, ⟨BK629.out⟩, ⟨by repeat (first | (with_reducible first | exact HB.out | apply below_alloc | apply pw_below_drewN | apply below_drew1 | refine below_set ?_ GE627.out | refine below_set ?_ GE628.out | refine below_set ?_ GE629.out) | exact HB.out)⟩⟩
        rw [if_neg c130] at H
        have c130b0 : decide (t650 < t649) = false := decide_eq_false c130
        clear c130
        have H' := Aside0.mk H
        clear H
        try go_wp2
        replace HO611 := Aside0.mk (Kd.V_drew HO611.out)
        replace HO614 := Aside0.mk (Kd.R_drew HO614.out)
        replace HO617 := Aside0.mk (Kd.V_drew HO617.out)
        replace HO620 := Aside0.mk (Kd.R_drew HO620.out)
        replace HO623 := Aside0.mk (Kd.V_drew HO623.out)
        replace HO626 := Aside0.mk (Kd.R_drew HO626.out)
        replace BK627 := Aside0.mk (blk_drew BK627.out)
        replace BK628 := Aside0.mk (blk_drew BK628.out)
        replace BK629 := Aside0.mk (blk_drew BK629.out)
        replace HB := Aside0.mk (below_drew1 HB.out)
        refine start_ (n := 33) (S := fun w' => w'.cell? ⟨gb627, 0, none⟩ = some (.slice Ao26 t612.length co26) ∧ w'.cell? ⟨gb628, 0, none⟩ = some (.slice Ao30 t618.length co30)) (ds := []) #[false, false, false, false, false, false, false, false, false, false, false, false, false, false, false, false, false, false, false, false, false, false, false, false, false, false, false, false, false, false, false, false, false] (by kernel_rfl) rfl rfl ⟨(blk_cell BK627.out 0).trans rfl, (blk_cell BK628.out 0).trans rfl⟩ (fun hHeld => ?_); refine with_tabW numerarylaw02_NatOrder.tab3 numerarylaw02_NatOrder.bits3 (fun HT_ HW_ => ?_)
        generalize w39.drew = w134 at HO611 HO614 HO617 HO620 HO623 HO626 BK627 BK628 BK629 HB hHeld ⊢
        refine pureA 0 31 HT_.out ?_
        refine pureA 1 32 HT_.out ?_
        refine pureA 2 33 HT_.out ?_
        refine pureN 3 34 HT_.out ?_
        refine pureN 4 35 HT_.out ?_
        refine pureA 5 36 HT_.out ?_
        refine pureA 6 37 HT_.out ?_
        refine pureN 7 38 HT_.out ?_
        refine pureN 8 39 HT_.out ?_
        refine pureA 9 40 HT_.out ?_
        refine pureA 10 41 HT_.out ?_
        refine pureA 11 42 HT_.out ?_
        refine pureA 12 43 HT_.out ?_
        refine pureA 13 44 HT_.out ?_
        refine pureN 14 45 HT_.out ?_
        refine pureN 15 46 HT_.out ?_
        refine pureA 16 47 HT_.out ?_
        refine pureA 17 48 HT_.out ?_
        refine pureN 18 49 HT_.out ?_
        refine pureN 19 50 HT_.out ?_
        refine pureA 20 51 HT_.out ?_
        refine pureA 21 52 HT_.out ?_
        refine pureA 22 53 HT_.out ?_
        refine take_ (i := 23) (N := some 54) (v := ?_) (a' := ?_) #[true, true, true, true, true, true, true, true, true, true, true, true, true, true, true, true, true, true, true, true, true, true, true, true, false, false, false, false, false, false, false, false, false] rfl rfl (take_ofW HT_.out HW_.out (by kernel_rfl)) (fun _ _ _ h => h) (Or.inl ⟨by rfl, ?_⟩) hHeld ?_ ?_
        rotate_left
        · rintro w' ⟨s0, s1⟩
          go_simp
          with_reducible rfl
        rotate_left
        · simp only [Act.put, List.setIfInBounds_toArray, List.set_cons_zero, List.set_cons_succ, i64_w, i32_w]
          rfl
        refine take_ (i := 25) (N := some 56) (v := ?_) (a' := ?_) #[true, true, true, true, true, true, true, true, true, true, true, true, true, true, true, true, true, true, true, true, true, true, true, true, false, true, false, false, false, false, false, false, false] rfl rfl (take_ofW HT_.out HW_.out (by kernel_rfl)) (fun _ _ _ h => h) (Or.inl ⟨by rfl, ?_⟩) hHeld ?_ ?_
        rotate_left
        · rintro w' ⟨s0, s1⟩
          go_simp
          with_reducible rfl
        rotate_left
        · simp only [Act.put, List.setIfInBounds_toArray, List.set_cons_zero, List.set_cons_succ, i64_w, i32_w]
          rfl
        refine one_ (i := 24) (N := some 55) #[true, true, true, true, true, true, true, true, true, true, true, true, true, true, true, true, true, true, true, true, true, true, true, true, true, true, false, false, false, false, false, false, false] rfl rfl (one_of HT_.out (by kernel_rfl)) (by decide) (fun K hK => ?_)
        refine goes_ Try.func33 (by kernel_rfl) rfl #[.agg #[.slice Ao26 t612.length co26]] (by rfl) rfl rfl (by (try simp only [List.map_toArray, List.map_cons, List.map_nil]); first | done | rfl | (simp only [List.length_drop, List.length_take]; rfl)) ?_
        with_reducible refine (nat_Nat_Bits.calls _ _ t612 t649 _ ?side1 ?side2 A128.out).mono ?_
        (case side1 => exact (Kd.R_reads' HO614.out).2.2)
        (case side2 => exact (Kd.R_reads' HO614.out).2.1)
        rintro e w135 ⟨rfl, hb⟩
        refine ⟨_, rfl, ?_⟩
        replace HO611 := Aside0.mk (Kd.V_below HO611.out hb)
        replace HO614 := Aside0.mk (Kd.R_below HO614.out hb)
        replace HO617 := Aside0.mk (Kd.V_below HO617.out hb)
        replace HO620 := Aside0.mk (Kd.R_below HO620.out hb)
        replace HO623 := Aside0.mk (Kd.V_below HO623.out hb)
        replace HO626 := Aside0.mk (Kd.R_below HO626.out hb)
        replace BK627 := Aside0.mk (blk_below (g := gb627) (o := .cells #[.slice Ao26 t612.length co26] 25 (0, 0)) BK627.out hb)
        replace BK628 := Aside0.mk (blk_below (g := gb628) (o := .cells #[.slice Ao30 t618.length co30] 25 (0, 0)) BK628.out hb)
        replace BK629 := Aside0.mk (blk_below (g := gb629) (o := .cells #[.slice Ao33 t624.length co33] 25 (0, 0)) BK629.out hb)
        replace HB := Aside0.mk (below_step (by repeat (first | (with_reducible first | exact HB.out | apply below_alloc | apply pw_below_drewN | apply below_drew1 | refine below_set ?_ GE627.out | refine below_set ?_ GE628.out | refine below_set ?_ GE629.out) | exact HB.out)) hb)
        (try clear hb)
        (try clear hb2)
        (try clear hk)
        (try clear hi)
        refine hK.out _ _ ⟨(blk_cell BK627.out 0).trans rfl, (blk_cell BK628.out 0).trans rfl⟩ (fun hHeld => ?_)
        clear hK K
        refine norm_ (a' := ?_) ?_ ?_
        rotate_left
        · show Act.put _ (some 55) _ = _
          simp only [Act.put, List.setIfInBounds_toArray, List.set_cons_zero, List.set_cons_succ, i64_w, i32_w]
          rfl
        refine one_ (i := 26) (N := some 57) #[true, true, true, true, true, true, true, true, true, true, true, true, true, true, true, true, true, true, true, true, true, true, true, true, true, true, true, false, false, false, false, false, false] rfl rfl (one_of HT_.out (by kernel_rfl)) (by decide) (fun K hK => ?_)
        refine goes_ Try.func33 (by kernel_rfl) rfl #[.agg #[.slice Ao30 t618.length co30]] (by rfl) rfl rfl (by (try simp only [List.map_toArray, List.map_cons, List.map_nil]); first | done | rfl | (simp only [List.length_drop, List.length_take]; rfl)) ?_
        with_reducible refine (nat_Nat_Bits.calls _ _ t618 t650 _ ?side1 ?side2 A129.out).mono ?_
        (case side1 => exact (Kd.R_reads' HO620.out).2.2)
        (case side2 => exact (Kd.R_reads' HO620.out).2.1)
        rintro e w136 ⟨rfl, hb⟩
        refine ⟨_, rfl, ?_⟩
        replace HO611 := Aside0.mk (Kd.V_below HO611.out hb)
        replace HO614 := Aside0.mk (Kd.R_below HO614.out hb)
        replace HO617 := Aside0.mk (Kd.V_below HO617.out hb)
        replace HO620 := Aside0.mk (Kd.R_below HO620.out hb)
        replace HO623 := Aside0.mk (Kd.V_below HO623.out hb)
        replace HO626 := Aside0.mk (Kd.R_below HO626.out hb)
        replace BK627 := Aside0.mk (blk_below (g := gb627) (o := .cells #[.slice Ao26 t612.length co26] 25 (0, 0)) BK627.out hb)
        replace BK628 := Aside0.mk (blk_below (g := gb628) (o := .cells #[.slice Ao30 t618.length co30] 25 (0, 0)) BK628.out hb)
        replace BK629 := Aside0.mk (blk_below (g := gb629) (o := .cells #[.slice Ao33 t624.length co33] 25 (0, 0)) BK629.out hb)
        replace HB := Aside0.mk (below_step (by repeat (first | (with_reducible first | exact HB.out | apply below_alloc | apply pw_below_drewN | apply below_drew1 | refine below_set ?_ GE627.out | refine below_set ?_ GE628.out | refine below_set ?_ GE629.out) | exact HB.out)) hb)
        (try clear hb)
        (try clear hb2)
        (try clear hk)
        (try clear hi)
        refine hK.out _ _ ⟨(blk_cell BK627.out 0).trans rfl, (blk_cell BK628.out 0).trans rfl⟩ (fun hHeld => ?_)
        clear hK K
        refine norm_ (a' := ?_) ?_ ?_
        rotate_left
        · show Act.put _ (some 57) _ = _
          simp only [Act.put, List.setIfInBounds_toArray, List.set_cons_zero, List.set_cons_succ, i64_w, i32_w]
          rfl
        refine pureA 27 58 HT_.out ?_
        refine pureA 28 59 HT_.out ?_
        refine pureN 29 60 HT_.out ?_
        refine pureN 30 61 HT_.out ?_
        refine pureA 31 62 HT_.out ?_
        refine pureA 32 63 HT_.out ?_
        refine done_ (done_of HT_.out (by kernel_rfl)) ?_
        try go_wp2
        go_meet
        case rel => exact ⟨_, (false), rfl, H', ⟨by first | omega | exact Nat.le_refl _⟩, ⟨HO614.out⟩, ⟨HO620.out⟩, ⟨HO626.out⟩, ⟨BK627.out⟩, ⟨BK628.out⟩, ⟨BK629.out⟩, ⟨by repeat (first | (with_reducible first | exact HB.out | apply below_alloc | apply pw_below_drewN | apply below_drew1 | refine below_set ?_ GE627.out | refine below_set ?_ GE628.out | refine below_set ?_ GE629.out) | exact HB.out)⟩⟩
      rw [if_pos c106] at H
      have c106b0 : decide (0 ≤ t630) = true := decide_eq_true c106
      clear c106
      by_cases c107 : t631 ≥ 0
      rotate_left
      · rw [if_neg c107] at H
        have c107b0 : decide (0 ≤ t631) = false := decide_eq_false c107
        clear c107
        replace H := Option.bind_eq_some_iff.mp H
        obtain ⟨t647, A1190, H⟩ := H
        have A119 := Aside0.mk A1190
        clear A1190
        replace H := Option.bind_eq_some_iff.mp H
        obtain ⟨t648, A1200, H⟩ := H
        have A120 := Aside0.mk A1200
        clear A1200
        by_cases c121 : t647 > t648
        · rw [if_pos c121] at H
          have c121b0 : decide (t648 < t647) = true := decide_eq_true c121
          clear c121
          have H' := Aside0.mk H
          clear H
          try go_wp2
          replace HO611 := Aside0.mk (Kd.V_drew HO611.out)
          replace HO614 := Aside0.mk (Kd.R_drew HO614.out)
          replace HO617 := Aside0.mk (Kd.V_drew HO617.out)
          replace HO620 := Aside0.mk (Kd.R_drew HO620.out)
          replace HO623 := Aside0.mk (Kd.V_drew HO623.out)
          replace HO626 := Aside0.mk (Kd.R_drew HO626.out)
          replace BK627 := Aside0.mk (blk_drew BK627.out)
          replace BK628 := Aside0.mk (blk_drew BK628.out)
          replace BK629 := Aside0.mk (blk_drew BK629.out)
          replace HB := Aside0.mk (below_drew1 HB.out)
          refine start_ (n := 33) (S := fun w' => w'.cell? ⟨gb627, 0, none⟩ = some (.slice Ao26 t612.length co26) ∧ w'.cell? ⟨gb628, 0, none⟩ = some (.slice Ao30 t618.length co30)) (ds := []) #[false, false, false, false, false, false, false, false, false, false, false, false, false, false, false, false, false, false, false, false, false, false, false, false, false, false, false, false, false, false, false, false, false] (by kernel_rfl) rfl rfl ⟨(blk_cell BK627.out 0).trans rfl, (blk_cell BK628.out 0).trans rfl⟩ (fun hHeld => ?_); refine with_tabW numerarylaw02_NatOrder.tab3 numerarylaw02_NatOrder.bits3 (fun HT_ HW_ => ?_)
          generalize w39.drew = w122 at HO611 HO614 HO617 HO620 HO623 HO626 BK627 BK628 BK629 HB hHeld ⊢
          refine pureA 0 31 HT_.out ?_
          refine pureA 1 32 HT_.out ?_
          refine pureA 2 33 HT_.out ?_
          refine pureN 3 34 HT_.out ?_
          refine pureN 4 35 HT_.out ?_
          refine pureA 5 36 HT_.out ?_
          refine pureA 6 37 HT_.out ?_
          refine pureN 7 38 HT_.out ?_
          refine pureN 8 39 HT_.out ?_
          refine pureA 9 40 HT_.out ?_
          refine pureA 10 41 HT_.out ?_
          refine pureA 11 42 HT_.out ?_
          refine pureA 12 43 HT_.out ?_
          refine pureA 13 44 HT_.out ?_
          refine pureA 14 45 HT_.out ?_
          refine pureA 15 46 HT_.out ?_
          refine pureA 16 47 HT_.out ?_
          refine pureA 17 48 HT_.out ?_
          refine pureN 18 49 HT_.out ?_
          refine pureN 19 50 HT_.out ?_
          refine pureA 20 51 HT_.out ?_
          refine pureA 21 52 HT_.out ?_
          refine pureA 22 53 HT_.out ?_
          refine take_ (i := 23) (N := some 54) (v := ?_) (a' := ?_) #[true, true, true, true, true, true, true, true, true, true, true, true, true, true, true, true, true, true, true, true, true, true, true, true, false, false, false, false, false, false, false, false, false] rfl rfl (take_ofW HT_.out HW_.out (by kernel_rfl)) (fun _ _ _ h => h) (Or.inl ⟨by rfl, ?_⟩) hHeld ?_ ?_
          rotate_left
          · rintro w' ⟨s0, s1⟩
            go_simp
            with_reducible rfl
          rotate_left
          · simp only [Act.put, List.setIfInBounds_toArray, List.set_cons_zero, List.set_cons_succ, i64_w, i32_w]
            rfl
          refine take_ (i := 25) (N := some 56) (v := ?_) (a' := ?_) #[true, true, true, true, true, true, true, true, true, true, true, true, true, true, true, true, true, true, true, true, true, true, true, true, false, true, false, false, false, false, false, false, false] rfl rfl (take_ofW HT_.out HW_.out (by kernel_rfl)) (fun _ _ _ h => h) (Or.inl ⟨by rfl, ?_⟩) hHeld ?_ ?_
          rotate_left
          · rintro w' ⟨s0, s1⟩
            go_simp
            with_reducible rfl
          rotate_left
          · simp only [Act.put, List.setIfInBounds_toArray, List.set_cons_zero, List.set_cons_succ, i64_w, i32_w]
            rfl
          refine one_ (i := 24) (N := some 55) #[true, true, true, true, true, true, true, true, true, true, true, true, true, true, true, true, true, true, true, true, true, true, true, true, true, true, false, false, false, false, false, false, false] rfl rfl (one_of HT_.out (by kernel_rfl)) (by decide) (fun K hK => ?_)
          refine goes_ Try.func33 (by kernel_rfl) rfl #[.agg #[.slice Ao26 t612.length co26]] (by rfl) rfl rfl (by (try simp only [List.map_toArray, List.map_cons, List.map_nil]); first | done | rfl | (simp only [List.length_drop, List.length_take]; rfl)) ?_
          with_reducible refine (nat_Nat_Bits.calls _ _ t612 t647 _ ?side1 ?side2 A119.out).mono ?_
          (case side1 => exact (Kd.R_reads' HO614.out).2.2)
          (case side2 => exact (Kd.R_reads' HO614.out).2.1)
          rintro e w123 ⟨rfl, hb⟩
          refine ⟨_, rfl, ?_⟩
          replace HO611 := Aside0.mk (Kd.V_below HO611.out hb)
          replace HO614 := Aside0.mk (Kd.R_below HO614.out hb)
          replace HO617 := Aside0.mk (Kd.V_below HO617.out hb)
          replace HO620 := Aside0.mk (Kd.R_below HO620.out hb)
          replace HO623 := Aside0.mk (Kd.V_below HO623.out hb)
          replace HO626 := Aside0.mk (Kd.R_below HO626.out hb)
          replace BK627 := Aside0.mk (blk_below (g := gb627) (o := .cells #[.slice Ao26 t612.length co26] 25 (0, 0)) BK627.out hb)
          replace BK628 := Aside0.mk (blk_below (g := gb628) (o := .cells #[.slice Ao30 t618.length co30] 25 (0, 0)) BK628.out hb)
          replace BK629 := Aside0.mk (blk_below (g := gb629) (o := .cells #[.slice Ao33 t624.length co33] 25 (0, 0)) BK629.out hb)
          replace HB := Aside0.mk (below_step (by repeat (first | (with_reducible first | exact HB.out | apply below_alloc | apply pw_below_drewN | apply below_drew1 | refine below_set ?_ GE627.out | refine below_set ?_ GE628.out | refine below_set ?_ GE629.out) | exact HB.out)) hb)
          (try clear hb)
          (try clear hb2)
          (try clear hk)
          (try clear hi)
          refine hK.out _ _ ⟨(blk_cell BK627.out 0).trans rfl, (blk_cell BK628.out 0).trans rfl⟩ (fun hHeld => ?_)
          clear hK K
          refine norm_ (a' := ?_) ?_ ?_
          rotate_left
          · show Act.put _ (some 55) _ = _
            simp only [Act.put, List.setIfInBounds_toArray, List.set_cons_zero, List.set_cons_succ, i64_w, i32_w]
            rfl
          refine one_ (i := 26) (N := some 57) #[true, true, true, true, true, true, true, true, true, true, true, true, true, true, true, true, true, true, true, true, true, true, true, true, true, true, true, false, false, false, false, false, false] rfl rfl (one_of HT_.out (by kernel_rfl)) (by decide) (fun K hK => ?_)
          refine goes_ Try.func33 (by kernel_rfl) rfl #[.agg #[.slice Ao30 t618.length co30]] (by rfl) rfl rfl (by (try simp only [List.map_toArray, List.map_cons, List.map_nil]); first | done | rfl | (simp only [List.length_drop, List.length_take]; rfl)) ?_
          with_reducible refine (nat_Nat_Bits.calls _ _ t618 t648 _ ?side1 ?side2 A120.out).mono ?_
          (case side1 => exact (Kd.R_reads' HO620.out).2.2)
          (case side2 => exact (Kd.R_reads' HO620.out).2.1)
          rintro e w124 ⟨rfl, hb⟩
          refine ⟨_, rfl, ?_⟩
          replace HO611 := Aside0.mk (Kd.V_below HO611.out hb)
          replace HO614 := Aside0.mk (Kd.R_below HO614.out hb)
          replace HO617 := Aside0.mk (Kd.V_below HO617.out hb)
          replace HO620 := Aside0.mk (Kd.R_below HO620.out hb)
          replace HO623 := Aside0.mk (Kd.V_below HO623.out hb)
          replace HO626 := Aside0.mk (Kd.R_below HO626.out hb)
          replace BK627 := Aside0.mk (blk_below (g := gb627) (o := .cells #[.slice Ao26 t612.length co26] 25 (0, 0)) BK627.out hb)
          replace BK628 := Aside0.mk (blk_below (g := gb628) (o := .cells #[.slice Ao30 t618.length co30] 25 (0, 0)) BK628.out hb)
          replace BK629 := Aside0.mk (blk_below (g := gb629) (o := .cells #[.slice Ao33 t624.length co33] 25 (0, 0)) BK629.out hb)
          replace HB := Aside0.mk (below_step (by repeat (first | (with_reducible first | exact HB.out | apply below_alloc | apply pw_below_drewN | apply below_drew1 | refine below_set ?_ GE627.out | refine below_set ?_ GE628.out | refine below_set ?_ GE629.out) | exact HB.out)) hb)
          (try clear hb)
          (try clear hb2)
          (try clear hk)
          (try clear hi)
          refine hK.out _ _ ⟨(blk_cell BK627.out 0).trans rfl, (blk_cell BK628.out 0).trans rfl⟩ (fun hHeld => ?_)
          clear hK K
          refine norm_ (a' := ?_) ?_ ?_
          rotate_left
          · show Act.put _ (some 57) _ = _
            simp only [Act.put, List.setIfInBounds_toArray, List.set_cons_zero, List.set_cons_succ, i64_w, i32_w]
            rfl
          refine pureA 27 58 HT_.out ?_
          refine pureA 28 59 HT_.out ?_
          refine pureA 29 60 HT_.out ?_
          refine pureA 30 61 HT_.out ?_
          refine pureA 31 62 HT_.out ?_
          refine pureA 32 63 HT_.out ?_
          refine done_ (done_of HT_.out (by kernel_rfl)) ?_
          try go_wp2
          go_meet
          case rel => exact ⟨_, ((t630 != 1)), rfl, H', ⟨by first | omega | exact Nat.le_refl _⟩, ⟨HO614.out⟩, ⟨HO620.out⟩, ⟨HO626.out⟩, ⟨BK627.out⟩, ⟨BK628.out⟩, ⟨BK629.out⟩, ⟨by repeat (first | (with_reducible first | exact HB.out | apply below_alloc | apply pw_below_drewN | apply below_drew1 | refine below_set ?_ GE627.out | refine below_set ?_ GE628.out | refine below_set ?_ GE629.out) | exact HB.out)⟩⟩
        rw [if_neg c121] at H
        have c121b0 : decide (t648 < t647) = false := decide_eq_false c121
        clear c121
        have H' := Aside0.mk H
        clear H
        try go_wp2
        replace HO611 := Aside0.mk (Kd.V_drew HO611.out)
        replace HO614 := Aside0.mk (Kd.R_drew HO614.out)
        replace HO617 := Aside0.mk (Kd.V_drew HO617.out)
        replace HO620 := Aside0.mk (Kd.R_drew HO620.out)
        replace HO623 := Aside0.mk (Kd.V_drew HO623.out)
        replace HO626 := Aside0.mk (Kd.R_drew HO626.out)
        replace BK627 := Aside0.mk (blk_drew BK627.out)
        replace BK628 := Aside0.mk (blk_drew BK628.out)
        replace BK629 := Aside0.mk (blk_drew BK629.out)
        replace HB := Aside0.mk (below_drew1 HB.out)
        refine start_ (n := 33) (S := fun w' => w'.cell? ⟨gb627, 0, none⟩ = some (.slice Ao26 t612.length co26) ∧ w'.cell? ⟨gb628, 0, none⟩ = some (.slice Ao30 t618.length co30)) (ds := []) #[false, false, false, false, false, false, false, false, false, false, false, false, false, false, false, false, false, false, false, false, false, false, false, false, false, false, false, false, false, false, false, false, false] (by kernel_rfl) rfl rfl ⟨(blk_cell BK627.out 0).trans rfl, (blk_cell BK628.out 0).trans rfl⟩ (fun hHeld => ?_); refine with_tabW numerarylaw02_NatOrder.tab3 numerarylaw02_NatOrder.bits3 (fun HT_ HW_ => ?_)
        generalize w39.drew = w125 at HO611 HO614 HO617 HO620 HO623 HO626 BK627 BK628 BK629 HB hHeld ⊢
        refine pureA 0 31 HT_.out ?_
        refine pureA 1 32 HT_.out ?_
        refine pureA 2 33 HT_.out ?_
        refine pureN 3 34 HT_.out ?_
        refine pureN 4 35 HT_.out ?_
        refine pureA 5 36 HT_.out ?_
        refine pureA 6 37 HT_.out ?_
        refine pureN 7 38 HT_.out ?_
        refine pureN 8 39 HT_.out ?_
        refine pureA 9 40 HT_.out ?_
        refine pureA 10 41 HT_.out ?_
        refine pureA 11 42 HT_.out ?_
        refine pureA 12 43 HT_.out ?_
        refine pureA 13 44 HT_.out ?_
        refine pureA 14 45 HT_.out ?_
        refine pureA 15 46 HT_.out ?_
        refine pureA 16 47 HT_.out ?_
        refine pureA 17 48 HT_.out ?_
        refine pureN 18 49 HT_.out ?_
        refine pureN 19 50 HT_.out ?_
        refine pureA 20 51 HT_.out ?_
        refine pureA 21 52 HT_.out ?_
        refine pureA 22 53 HT_.out ?_
        refine take_ (i := 23) (N := some 54) (v := ?_) (a' := ?_) #[true, true, true, true, true, true, true, true, true, true, true, true, true, true, true, true, true, true, true, true, true, true, true, true, false, false, false, false, false, false, false, false, false] rfl rfl (take_ofW HT_.out HW_.out (by kernel_rfl)) (fun _ _ _ h => h) (Or.inl ⟨by rfl, ?_⟩) hHeld ?_ ?_
        rotate_left
        · rintro w' ⟨s0, s1⟩
          go_simp
          with_reducible rfl
        rotate_left
        · simp only [Act.put, List.setIfInBounds_toArray, List.set_cons_zero, List.set_cons_succ, i64_w, i32_w]
          rfl
        refine take_ (i := 25) (N := some 56) (v := ?_) (a' := ?_) #[true, true, true, true, true, true, true, true, true, true, true, true, true, true, true, true, true, true, true, true, true, true, true, true, false, true, false, false, false, false, false, false, false] rfl rfl (take_ofW HT_.out HW_.out (by kernel_rfl)) (fun _ _ _ h => h) (Or.inl ⟨by rfl, ?_⟩) hHeld ?_ ?_
        rotate_left
        · rintro w' ⟨s0, s1⟩
          go_simp
          with_reducible rfl
        rotate_left
        · simp only [Act.put, List.setIfInBounds_toArray, List.set_cons_zero, List.set_cons_succ, i64_w, i32_w]
          rfl
        refine one_ (i := 24) (N := some 55) #[true, true, true, true, true, true, true, true, true, true, true, true, true, true, true, true, true, true, true, true, true, true, true, true, true, true, false, false, false, false, false, false, false] rfl rfl (one_of HT_.out (by kernel_rfl)) (by decide) (fun K hK => ?_)
        refine goes_ Try.func33 (by kernel_rfl) rfl #[.agg #[.slice Ao26 t612.length co26]] (by rfl) rfl rfl (by (try simp only [List.map_toArray, List.map_cons, List.map_nil]); first | done | rfl | (simp only [List.length_drop, List.length_take]; rfl)) ?_
        with_reducible refine (nat_Nat_Bits.calls _ _ t612 t647 _ ?side1 ?side2 A119.out).mono ?_
        (case side1 => exact (Kd.R_reads' HO614.out).2.2)
        (case side2 => exact (Kd.R_reads' HO614.out).2.1)
        rintro e w126 ⟨rfl, hb⟩
        refine ⟨_, rfl, ?_⟩
        replace HO611 := Aside0.mk (Kd.V_below HO611.out hb)
        replace HO614 := Aside0.mk (Kd.R_below HO614.out hb)
        replace HO617 := Aside0.mk (Kd.V_below HO617.out hb)
        replace HO620 := Aside0.mk (Kd.R_below HO620.out hb)
        replace HO623 := Aside0.mk (Kd.V_below HO623.out hb)
        replace HO626 := Aside0.mk (Kd.R_below HO626.out hb)
        replace BK627 := Aside0.mk (blk_below (g := gb627) (o := .cells #[.slice Ao26 t612.length co26] 25 (0, 0)) BK627.out hb)
        replace BK628 := Aside0.mk (blk_below (g := gb628) (o := .cells #[.slice Ao30 t618.length co30] 25 (0, 0)) BK628.out hb)
        replace BK629 := Aside0.mk (blk_below (g := gb629) (o := .cells #[.slice Ao33 t624.length co33] 25 (0, 0)) BK629.out hb)
        replace HB := Aside0.mk (below_step (by repeat (first | (with_reducible first | exact HB.out | apply below_alloc | apply pw_below_drewN | apply below_drew1 | refine below_set ?_ GE627.out | refine below_set ?_ GE628.out | refine below_set ?_ GE629.out) | exact HB.out)) hb)
        (try clear hb)
        (try clear hb2)
        (try clear hk)
        (try clear hi)
        refine hK.out _ _ ⟨(blk_cell BK627.out 0).trans rfl, (blk_cell BK628.out 0).trans rfl⟩ (fun hHeld => ?_)
        clear hK K
        refine norm_ (a' := ?_) ?_ ?_
        rotate_left
        · show Act.put _ (some 55) _ = _
          simp only [Act.put, List.setIfInBounds_toArray, List.set_cons_zero, List.set_cons_succ, i64_w, i32_w]
          rfl
        refine one_ (i := 26) (N := some 57) #[true, true, true, true, true, true, true, true, true, true, true, true, true, true, true, true, true, true, true, true, true, true, true, true, true, true, true, false, false, false, false, false, false] rfl rfl (one_of HT_.out (by kernel_rfl)) (by decide) (fun K hK => ?_)
        refine goes_ Try.func33 (by kernel_rfl) rfl #[.agg #[.slice Ao30 t618.length co30]] (by rfl) rfl rfl (by (try simp only [List.map_toArray, List.map_cons, List.map_nil]); first | done | rfl | (simp only [List.length_drop, List.length_take]; rfl)) ?_
        with_reducible refine (nat_Nat_Bits.calls _ _ t618 t648 _ ?side1 ?side2 A120.out).mono ?_
        (case side1 => exact (Kd.R_reads' HO620.out).2.2)
        (case side2 => exact (Kd.R_reads' HO620.out).2.1)
        rintro e w127 ⟨rfl, hb⟩
        refine ⟨_, rfl, ?_⟩
        replace HO611 := Aside0.mk (Kd.V_below HO611.out hb)
        replace HO614 := Aside0.mk (Kd.R_below HO614.out hb)
        replace HO617 := Aside0.mk (Kd.V_below HO617.out hb)
        replace HO620 := Aside0.mk (Kd.R_below HO620.out hb)
        replace HO623 := Aside0.mk (Kd.V_below HO623.out hb)
        replace HO626 := Aside0.mk (Kd.R_below HO626.out hb)
        replace BK627 := Aside0.mk (blk_below (g := gb627) (o := .cells #[.slice Ao26 t612.length co26] 25 (0, 0)) BK627.out hb)
        replace BK628 := Aside0.mk (blk_below (g := gb628) (o := .cells #[.slice Ao30 t618.length co30] 25 (0, 0)) BK628.out hb)
        replace BK629 := Aside0.mk (blk_below (g := gb629) (o := .cells #[.slice Ao33 t624.length co33] 25 (0, 0)) BK629.out hb)
        replace HB := Aside0.mk (below_step (by repeat (first | (with_reducible first | exact HB.out | apply below_alloc | apply pw_below_drewN | apply below_drew1 | refine below_set ?_ GE627.out | refine below_set ?_ GE628.out | refine below_set ?_ GE629.out) | exact HB.out)) hb)
        (try clear hb)
        (try clear hb2)
        (try clear hk)
        (try clear hi)
        refine hK.out _ _ ⟨(blk_cell BK627.out 0).trans rfl, (blk_cell BK628.out 0).trans rfl⟩ (fun hHeld => ?_)
        clear hK K
        refine norm_ (a' := ?_) ?_ ?_
        rotate_left
        · show Act.put _ (some 57) _ = _
          simp only [Act.put, List.setIfInBounds_toArray, List.set_cons_zero, List.set_cons_succ, i64_w, i32_w]
          rfl
        refine pureA 27 58 HT_.out ?_
        refine pureA 28 59 HT_.out ?_
        refine pureN 29 60 HT_.out ?_
        refine pureN 30 61 HT_.out ?_
        refine pureA 31 62 HT_.out ?_
        refine pureA 32 63 HT_.out ?_
        refine done_ (done_of HT_.out (by kernel_rfl)) ?_
        try go_wp2
        go_meet
        case rel => exact ⟨_, (false), rfl, H', ⟨by first | omega | exact Nat.le_refl _⟩, ⟨HO614.out⟩, ⟨HO620.out⟩, ⟨HO626.out⟩, ⟨BK627.out⟩, ⟨BK628.out⟩, ⟨BK629.out⟩, ⟨by repeat (first | (with_reducible first | exact HB.out | apply below_alloc | apply pw_below_drewN | apply below_drew1 | refine below_set ?_ GE627.out | refine below_set ?_ GE628.out | refine below_set ?_ GE629.out) | exact HB.out)⟩⟩
      rw [if_pos c107] at H
      have c107b0 : decide (0 ≤ t631) = true := decide_eq_true c107
      clear c107
      by_cases c108 : t632 < 0
      · rw [if_pos c108] at H
        have c108b0 : decide (t632 < 0) = true := decide_eq_true c108
        clear c108
        have H' := Aside0.mk H
        clear H
        try go_wp2
        replace HO611 := Aside0.mk (Kd.V_drew HO611.out)
        replace HO614 := Aside0.mk (Kd.R_drew HO614.out)
        replace HO617 := Aside0.mk (Kd.V_drew HO617.out)
        replace HO620 := Aside0.mk (Kd.R_drew HO620.out)
        replace HO623 := Aside0.mk (Kd.V_drew HO623.out)
        replace HO626 := Aside0.mk (Kd.R_drew HO626.out)
        replace BK627 := Aside0.mk (blk_drew BK627.out)
        replace BK628 := Aside0.mk (blk_drew BK628.out)
        replace BK629 := Aside0.mk (blk_drew BK629.out)
        replace HB := Aside0.mk (below_drew1 HB.out)
        refine start_ (n := 33) (S := fun w' => True) (ds := []) #[false, false, false, false, false, false, false, false, false, false, false, false, false, false, false, false, false, false, false, false, false, false, false, false, false, false, false, false, false, false, false, false, false] (by kernel_rfl) rfl rfl trivial (fun hHeld => ?_); refine with_tabW numerarylaw02_NatOrder.tab3 numerarylaw02_NatOrder.bits3 (fun HT_ HW_ => ?_)
        generalize w39.drew = w109 at HO611 HO614 HO617 HO620 HO623 HO626 BK627 BK628 BK629 HB hHeld ⊢
        refine pureA 0 31 HT_.out ?_
        refine pureA 1 32 HT_.out ?_
        refine pureA 2 33 HT_.out ?_
        refine pureN 3 34 HT_.out ?_
        refine pureN 4 35 HT_.out ?_
        refine pureA 5 36 HT_.out ?_
        refine pureA 6 37 HT_.out ?_
        refine pureN 7 38 HT_.out ?_
        refine pureN 8 39 HT_.out ?_
        refine pureA 9 40 HT_.out ?_
        refine pureA 10 41 HT_.out ?_
        refine pureA 11 42 HT_.out ?_
        refine pureA 12 43 HT_.out ?_
        refine pureA 13 44 HT_.out ?_
        refine pureA 14 45 HT_.out ?_
        refine pureA 15 46 HT_.out ?_
        refine pureA 16 47 HT_.out ?_
        refine pureA 17 48 HT_.out ?_
        refine pureA 18 49 HT_.out ?_
        refine pureA 19 50 HT_.out ?_
        refine pureA 20 51 HT_.out ?_
        refine pureA 21 52 HT_.out ?_
        refine pureA 22 53 HT_.out ?_
        refine pureN 23 54 HT_.out ?_
        refine pureN 24 55 HT_.out ?_
        refine pureN 25 56 HT_.out ?_
        refine pureN 26 57 HT_.out ?_
        refine pureN 27 58 HT_.out ?_
        refine pureN 28 59 HT_.out ?_
        refine pureN 29 60 HT_.out ?_
        refine pureN 30 61 HT_.out ?_
        refine pureN 31 62 HT_.out ?_
        refine pureA 32 63 HT_.out ?_
        refine done_ (done_of HT_.out (by kernel_rfl)) ?_
        try go_wp2
        go_meet
        case rel => exact ⟨_, (true), rfl, H', ⟨by first | omega | exact Nat.le_refl _⟩, ⟨HO614.out⟩, ⟨HO620.out⟩, ⟨HO626.out⟩, ⟨BK627.out⟩, ⟨BK628.out⟩, ⟨BK629.out⟩, ⟨by repeat (first | (with_reducible first | exact HB.out | apply below_alloc | apply pw_below_drewN | apply below_drew1 | refine below_set ?_ GE627.out | refine below_set ?_ GE628.out | refine below_set ?_ GE629.out) | exact HB.out)⟩⟩
      rw [if_neg c108] at H
      have c108b0 : decide (t632 < 0) = false := decide_eq_false c108
      clear c108
      replace H := Option.bind_eq_some_iff.mp H
      obtain ⟨t645, A1100, H⟩ := H
      have A110 := Aside0.mk A1100
      clear A1100
      replace H := Option.bind_eq_some_iff.mp H
      obtain ⟨t646, A1110, H⟩ := H
      have A111 := Aside0.mk A1110
      clear A1110
      by_cases c112 : t645 > t646
      · rw [if_pos c112] at H
        have c112b0 : decide (t646 < t645) = true := decide_eq_true c112
        clear c112
        have H' := Aside0.mk H
        clear H
        try go_wp2
        replace HO611 := Aside0.mk (Kd.V_drew HO611.out)
        replace HO614 := Aside0.mk (Kd.R_drew HO614.out)
        replace HO617 := Aside0.mk (Kd.V_drew HO617.out)
        replace HO620 := Aside0.mk (Kd.R_drew HO620.out)
        replace HO623 := Aside0.mk (Kd.V_drew HO623.out)
        replace HO626 := Aside0.mk (Kd.R_drew HO626.out)
        replace BK627 := Aside0.mk (blk_drew BK627.out)
        replace BK628 := Aside0.mk (blk_drew BK628.out)
        replace BK629 := Aside0.mk (blk_drew BK629.out)
        replace HB := Aside0.mk (below_drew1 HB.out)
        refine start_ (n := 33) (S := fun w' => w'.cell? ⟨gb627, 0, none⟩ = some (.slice Ao26 t612.length co26) ∧ w'.cell? ⟨gb628, 0, none⟩ = some (.slice Ao30 t618.length co30)) (ds := []) #[false, false, false, false, false, false, false, false, false, false, false, false, false, false, false, false, false, false, false, false, false, false, false, false, false, false, false, false, false, false, false, false, false] (by kernel_rfl) rfl rfl ⟨(blk_cell BK627.out 0).trans rfl, (blk_cell BK628.out 0).trans rfl⟩ (fun hHeld => ?_); refine with_tabW numerarylaw02_NatOrder.tab3 numerarylaw02_NatOrder.bits3 (fun HT_ HW_ => ?_)
        generalize w39.drew = w113 at HO611 HO614 HO617 HO620 HO623 HO626 BK627 BK628 BK629 HB hHeld ⊢
        refine pureA 0 31 HT_.out ?_
        refine pureA 1 32 HT_.out ?_
        refine pureA 2 33 HT_.out ?_
        refine pureN 3 34 HT_.out ?_
        refine pureN 4 35 HT_.out ?_
        refine pureA 5 36 HT_.out ?_
        refine pureA 6 37 HT_.out ?_
        refine pureN 7 38 HT_.out ?_
        refine pureN 8 39 HT_.out ?_
        refine pureA 9 40 HT_.out ?_
        refine pureA 10 41 HT_.out ?_
        refine pureA 11 42 HT_.out ?_
        refine pureA 12 43 HT_.out ?_
        refine pureA 13 44 HT_.out ?_
        refine pureA 14 45 HT_.out ?_
        refine pureA 15 46 HT_.out ?_
        refine pureA 16 47 HT_.out ?_
        refine pureA 17 48 HT_.out ?_
        refine pureA 18 49 HT_.out ?_
        refine pureA 19 50 HT_.out ?_
        refine pureA 20 51 HT_.out ?_
        refine pureA 21 52 HT_.out ?_
        refine pureA 22 53 HT_.out ?_
        refine take_ (i := 23) (N := some 54) (v := ?_) (a' := ?_) #[true, true, true, true, true, true, true, true, true, true, true, true, true, true, true, true, true, true, true, true, true, true, true, true, false, false, false, false, false, false, false, false, false] rfl rfl (take_ofW HT_.out HW_.out (by kernel_rfl)) (fun _ _ _ h => h) (Or.inl ⟨by rfl, ?_⟩) hHeld ?_ ?_
        rotate_left
        · rintro w' ⟨s0, s1⟩
          go_simp
          with_reducible rfl
        rotate_left
        · simp only [Act.put, List.setIfInBounds_toArray, List.set_cons_zero, List.set_cons_succ, i64_w, i32_w]
          rfl
        refine take_ (i := 25) (N := some 56) (v := ?_) (a' := ?_) #[true, true, true, true, true, true, true, true, true, true, true, true, true, true, true, true, true, true, true, true, true, true, true, true, false, true, false, false, false, false, false, false, false] rfl rfl (take_ofW HT_.out HW_.out (by kernel_rfl)) (fun _ _ _ h => h) (Or.inl ⟨by rfl, ?_⟩) hHeld ?_ ?_
        rotate_left
        · rintro w' ⟨s0, s1⟩
          go_simp
          with_reducible rfl
        rotate_left
        · simp only [Act.put, List.setIfInBounds_toArray, List.set_cons_zero, List.set_cons_succ, i64_w, i32_w]
          rfl
        refine one_ (i := 24) (N := some 55) #[true, true, true, true, true, true, true, true, true, true, true, true, true, true, true, true, true, true, true, true, true, true, true, true, true, true, false, false, false, false, false, false, false] rfl rfl (one_of HT_.out (by kernel_rfl)) (by decide) (fun K hK => ?_)
        refine goes_ Try.func33 (by kernel_rfl) rfl #[.agg #[.slice Ao26 t612.length co26]] (by rfl) rfl rfl (by (try simp only [List.map_toArray, List.map_cons, List.map_nil]); first | done | rfl | (simp only [List.length_drop, List.length_take]; rfl)) ?_
        with_reducible refine (nat_Nat_Bits.calls _ _ t612 t645 _ ?side1 ?side2 A110.out).mono ?_
        (case side1 => exact (Kd.R_reads' HO614.out).2.2)
        (case side2 => exact (Kd.R_reads' HO614.out).2.1)
        rintro e w114 ⟨rfl, hb⟩
        refine ⟨_, rfl, ?_⟩
        replace HO611 := Aside0.mk (Kd.V_below HO611.out hb)
        replace HO614 := Aside0.mk (Kd.R_below HO614.out hb)
        replace HO617 := Aside0.mk (Kd.V_below HO617.out hb)
        replace HO620 := Aside0.mk (Kd.R_below HO620.out hb)
        replace HO623 := Aside0.mk (Kd.V_below HO623.out hb)
        replace HO626 := Aside0.mk (Kd.R_below HO626.out hb)
        replace BK627 := Aside0.mk (blk_below (g := gb627) (o := .cells #[.slice Ao26 t612.length co26] 25 (0, 0)) BK627.out hb)
        replace BK628 := Aside0.mk (blk_below (g := gb628) (o := .cells #[.slice Ao30 t618.length co30] 25 (0, 0)) BK628.out hb)
        replace BK629 := Aside0.mk (blk_below (g := gb629) (o := .cells #[.slice Ao33 t624.length co33] 25 (0, 0)) BK629.out hb)
        replace HB := Aside0.mk (below_step (by repeat (first | (with_reducible first | exact HB.out | apply below_alloc | apply pw_below_drewN | apply below_drew1 | refine below_set ?_ GE627.out | refine below_set ?_ GE628.out | refine below_set ?_ GE629.out) | exact HB.out)) hb)
        (try clear hb)
        (try clear hb2)
        (try clear hk)
        (try clear hi)
        refine hK.out _ _ ⟨(blk_cell BK627.out 0).trans rfl, (blk_cell BK628.out 0).trans rfl⟩ (fun hHeld => ?_)
        clear hK K
        refine norm_ (a' := ?_) ?_ ?_
        rotate_left
        · show Act.put _ (some 55) _ = _
          simp only [Act.put, List.setIfInBounds_toArray, List.set_cons_zero, List.set_cons_succ, i64_w, i32_w]
          rfl
        refine one_ (i := 26) (N := some 57) #[true, true, true, true, true, true, true, true, true, true, true, true, true, true, true, true, true, true, true, true, true, true, true, true, true, true, true, false, false, false, false, false, false] rfl rfl (one_of HT_.out (by kernel_rfl)) (by decide) (fun K hK => ?_)
        refine goes_ Try.func33 (by kernel_rfl) rfl #[.agg #[.slice Ao30 t618.length co30]] (by rfl) rfl rfl (by (try simp only [List.map_toArray, List.map_cons, List.map_nil]); first | done | rfl | (simp only [List.length_drop, List.length_take]; rfl)) ?_
        with_reducible refine (nat_Nat_Bits.calls _ _ t618 t646 _ ?side1 ?side2 A111.out).mono ?_
        (case side1 => exact (Kd.R_reads' HO620.out).2.2)
        (case side2 => exact (Kd.R_reads' HO620.out).2.1)
        rintro e w115 ⟨rfl, hb⟩
        refine ⟨_, rfl, ?_⟩
        replace HO611 := Aside0.mk (Kd.V_below HO611.out hb)
        replace HO614 := Aside0.mk (Kd.R_below HO614.out hb)
        replace HO617 := Aside0.mk (Kd.V_below HO617.out hb)
        replace HO620 := Aside0.mk (Kd.R_below HO620.out hb)
        replace HO623 := Aside0.mk (Kd.V_below HO623.out hb)
        replace HO626 := Aside0.mk (Kd.R_below HO626.out hb)
        replace BK627 := Aside0.mk (blk_below (g := gb627) (o := .cells #[.slice Ao26 t612.length co26] 25 (0, 0)) BK627.out hb)
        replace BK628 := Aside0.mk (blk_below (g := gb628) (o := .cells #[.slice Ao30 t618.length co30] 25 (0, 0)) BK628.out hb)
        replace BK629 := Aside0.mk (blk_below (g := gb629) (o := .cells #[.slice Ao33 t624.length co33] 25 (0, 0)) BK629.out hb)
        replace HB := Aside0.mk (below_step (by repeat (first | (with_reducible first | exact HB.out | apply below_alloc | apply pw_below_drewN | apply below_drew1 | refine below_set ?_ GE627.out | refine below_set ?_ GE628.out | refine below_set ?_ GE629.out) | exact HB.out)) hb)
        (try clear hb)
        (try clear hb2)
        (try clear hk)
        (try clear hi)
        refine hK.out _ _ ⟨(blk_cell BK627.out 0).trans rfl, (blk_cell BK628.out 0).trans rfl⟩ (fun hHeld => ?_)
        clear hK K
        refine norm_ (a' := ?_) ?_ ?_
        rotate_left
        · show Act.put _ (some 57) _ = _
          simp only [Act.put, List.setIfInBounds_toArray, List.set_cons_zero, List.set_cons_succ, i64_w, i32_w]
          rfl
        refine pureA 27 58 HT_.out ?_
        refine pureA 28 59 HT_.out ?_
        refine pureA 29 60 HT_.out ?_
        refine pureA 30 61 HT_.out ?_
        refine pureA 31 62 HT_.out ?_
        refine pureA 32 63 HT_.out ?_
        refine done_ (done_of HT_.out (by kernel_rfl)) ?_
        try go_wp2
        go_meet
        case rel => exact ⟨_, ((t630 != 1)), rfl, H', ⟨by first | omega | exact Nat.le_refl _⟩, ⟨HO614.out⟩, ⟨HO620.out⟩, ⟨HO626.out⟩, ⟨BK627.out⟩, ⟨BK628.out⟩, ⟨BK629.out⟩, ⟨by repeat (first | (with_reducible first | exact HB.out | apply below_alloc | apply pw_below_drewN | apply below_drew1 | refine below_set ?_ GE627.out | refine below_set ?_ GE628.out | refine below_set ?_ GE629.out) | exact HB.out)⟩⟩
      rw [if_neg c112] at H
      have c112b0 : decide (t646 < t645) = false := decide_eq_false c112
      clear c112
      have H' := Aside0.mk H
      clear H
      try go_wp2
      replace HO611 := Aside0.mk (Kd.V_drew HO611.out)
      replace HO614 := Aside0.mk (Kd.R_drew HO614.out)
      replace HO617 := Aside0.mk (Kd.V_drew HO617.out)
      replace HO620 := Aside0.mk (Kd.R_drew HO620.out)
      replace HO623 := Aside0.mk (Kd.V_drew HO623.out)
      replace HO626 := Aside0.mk (Kd.R_drew HO626.out)
      replace BK627 := Aside0.mk (blk_drew BK627.out)
      replace BK628 := Aside0.mk (blk_drew BK628.out)
      replace BK629 := Aside0.mk (blk_drew BK629.out)
      replace HB := Aside0.mk (below_drew1 HB.out)
      refine start_ (n := 33) (S := fun w' => w'.cell? ⟨gb627, 0, none⟩ = some (.slice Ao26 t612.length co26) ∧ w'.cell? ⟨gb628, 0, none⟩ = some (.slice Ao30 t618.length co30)) (ds := []) #[false, false, false, false, false, false, false, false, false, false, false, false, false, false, false, false, false, false, false, false, false, false, false, false, false, false, false, false, false, false, false, false, false] (by kernel_rfl) rfl rfl ⟨(blk_cell BK627.out 0).trans rfl, (blk_cell BK628.out 0).trans rfl⟩ (fun hHeld => ?_); refine with_tabW numerarylaw02_NatOrder.tab3 numerarylaw02_NatOrder.bits3 (fun HT_ HW_ => ?_)
      generalize w39.drew = w116 at HO611 HO614 HO617 HO620 HO623 HO626 BK627 BK628 BK629 HB hHeld ⊢
      refine pureA 0 31 HT_.out ?_
      refine pureA 1 32 HT_.out ?_
      refine pureA 2 33 HT_.out ?_
      refine pureN 3 34 HT_.out ?_
      refine pureN 4 35 HT_.out ?_
      refine pureA 5 36 HT_.out ?_
      refine pureA 6 37 HT_.out ?_
      refine pureN 7 38 HT_.out ?_
      refine pureN 8 39 HT_.out ?_
      refine pureA 9 40 HT_.out ?_
      refine pureA 10 41 HT_.out ?_
      refine pureA 11 42 HT_.out ?_
      refine pureA 12 43 HT_.out ?_
      refine pureA 13 44 HT_.out ?_
      refine pureA 14 45 HT_.out ?_
      refine pureA 15 46 HT_.out ?_
      refine pureA 16 47 HT_.out ?_
      refine pureA 17 48 HT_.out ?_
      refine pureA 18 49 HT_.out ?_
      refine pureA 19 50 HT_.out ?_
      refine pureA 20 51 HT_.out ?_
      refine pureA 21 52 HT_.out ?_
      refine pureA 22 53 HT_.out ?_
      refine take_ (i := 23) (N := some 54) (v := ?_) (a' := ?_) #[true, true, true, true, true, true, true, true, true, true, true, true, true, true, true, true, true, true, true, true, true, true, true, true, false, false, false, false, false, false, false, false, false] rfl rfl (take_ofW HT_.out HW_.out (by kernel_rfl)) (fun _ _ _ h => h) (Or.inl ⟨by rfl, ?_⟩) hHeld ?_ ?_
      rotate_left
      · rintro w' ⟨s0, s1⟩
        go_simp
        with_reducible rfl
      rotate_left
      · simp only [Act.put, List.setIfInBounds_toArray, List.set_cons_zero, List.set_cons_succ, i64_w, i32_w]
        rfl
      refine take_ (i := 25) (N := some 56) (v := ?_) (a' := ?_) #[true, true, true, true, true, true, true, true, true, true, true, true, true, true, true, true, true, true, true, true, true, true, true, true, false, true, false, false, false, false, false, false, false] rfl rfl (take_ofW HT_.out HW_.out (by kernel_rfl)) (fun _ _ _ h => h) (Or.inl ⟨by rfl, ?_⟩) hHeld ?_ ?_
      rotate_left
      · rintro w' ⟨s0, s1⟩
        go_simp
        with_reducible rfl
      rotate_left
      · simp only [Act.put, List.setIfInBounds_toArray, List.set_cons_zero, List.set_cons_succ, i64_w, i32_w]
        rfl
      refine one_ (i := 24) (N := some 55) #[true, true, true, true, true, true, true, true, true, true, true, true, true, true, true, true, true, true, true, true, true, true, true, true, true, true, false, false, false, false, false, false, false] rfl rfl (one_of HT_.out (by kernel_rfl)) (by decide) (fun K hK => ?_)
      refine goes_ Try.func33 (by kernel_rfl) rfl #[.agg #[.slice Ao26 t612.length co26]] (by rfl) rfl rfl (by (try simp only [List.map_toArray, List.map_cons, List.map_nil]); first | done | rfl | (simp only [List.length_drop, List.length_take]; rfl)) ?_
      with_reducible refine (nat_Nat_Bits.calls _ _ t612 t645 _ ?side1 ?side2 A110.out).mono ?_
      (case side1 => exact (Kd.R_reads' HO614.out).2.2)
      (case side2 => exact (Kd.R_reads' HO614.out).2.1)
      rintro e w117 ⟨rfl, hb⟩
      refine ⟨_, rfl, ?_⟩
      replace HO611 := Aside0.mk (Kd.V_below HO611.out hb)
      replace HO614 := Aside0.mk (Kd.R_below HO614.out hb)
      replace HO617 := Aside0.mk (Kd.V_below HO617.out hb)
      replace HO620 := Aside0.mk (Kd.R_below HO620.out hb)
      replace HO623 := Aside0.mk (Kd.V_below HO623.out hb)
      replace HO626 := Aside0.mk (Kd.R_below HO626.out hb)
      replace BK627 := Aside0.mk (blk_below (g := gb627) (o := .cells #[.slice Ao26 t612.length co26] 25 (0, 0)) BK627.out hb)
      replace BK628 := Aside0.mk (blk_below (g := gb628) (o := .cells #[.slice Ao30 t618.length co30] 25 (0, 0)) BK628.out hb)
      replace BK629 := Aside0.mk (blk_below (g := gb629) (o := .cells #[.slice Ao33 t624.length co33] 25 (0, 0)) BK629.out hb)
      replace HB := Aside0.mk (below_step (by repeat (first | (with_reducible first | exact HB.out | apply below_alloc | apply pw_below_drewN | apply below_drew1 | refine below_set ?_ GE627.out | refine below_set ?_ GE628.out | refine below_set ?_ GE629.out) | exact HB.out)) hb)
      (try clear hb)
      (try clear hb2)
      (try clear hk)
      (try clear hi)
      refine hK.out _ _ ⟨(blk_cell BK627.out 0).trans rfl, (blk_cell BK628.out 0).trans rfl⟩ (fun hHeld => ?_)
      clear hK K
      refine norm_ (a' := ?_) ?_ ?_
      rotate_left
      · show Act.put _ (some 55) _ = _
        simp only [Act.put, List.setIfInBounds_toArray, List.set_cons_zero, List.set_cons_succ, i64_w, i32_w]
        rfl
      refine one_ (i := 26) (N := some 57) #[true, true, true, true, true, true, true, true, true, true, true, true, true, true, true, true, true, true, true, true, true, true, true, true, true, true, true, false, false, false, false, false, false] rfl rfl (one_of HT_.out (by kernel_rfl)) (by decide) (fun K hK => ?_)
      refine goes_ Try.func33 (by kernel_rfl) rfl #[.agg #[.slice Ao30 t618.length co30]] (by rfl) rfl rfl (by (try simp only [List.map_toArray, List.map_cons, List.map_nil]); first | done | rfl | (simp only [List.length_drop, List.length_take]; rfl)) ?_
      with_reducible refine (nat_Nat_Bits.calls _ _ t618 t646 _ ?side1 ?side2 A111.out).mono ?_
      (case side1 => exact (Kd.R_reads' HO620.out).2.2)
      (case side2 => exact (Kd.R_reads' HO620.out).2.1)
      rintro e w118 ⟨rfl, hb⟩
      refine ⟨_, rfl, ?_⟩
      replace HO611 := Aside0.mk (Kd.V_below HO611.out hb)
      replace HO614 := Aside0.mk (Kd.R_below HO614.out hb)
      replace HO617 := Aside0.mk (Kd.V_below HO617.out hb)
      replace HO620 := Aside0.mk (Kd.R_below HO620.out hb)
      replace HO623 := Aside0.mk (Kd.V_below HO623.out hb)
      replace HO626 := Aside0.mk (Kd.R_below HO626.out hb)
      replace BK627 := Aside0.mk (blk_below (g := gb627) (o := .cells #[.slice Ao26 t612.length co26] 25 (0, 0)) BK627.out hb)
      replace BK628 := Aside0.mk (blk_below (g := gb628) (o := .cells #[.slice Ao30 t618.length co30] 25 (0, 0)) BK628.out hb)
      replace BK629 := Aside0.mk (blk_below (g := gb629) (o := .cells #[.slice Ao33 t624.length co33] 25 (0, 0)) BK629.out hb)
      replace HB := Aside0.mk (below_step (by repeat (first | (with_reducible first | exact HB.out | apply below_alloc | apply pw_below_drewN | apply below_drew1 | refine below_set ?_ GE627.out | refine below_set ?_ GE628.out | refine below_set ?_ GE629.out) | exact HB.out)) hb)
      (try clear hb)
      (try clear hb2)
      (try clear hk)
      (try clear hi)
      refine hK.out _ _ ⟨(blk_cell BK627.out 0).trans rfl, (blk_cell BK628.out 0).trans rfl⟩ (fun hHeld => ?_)
      clear hK K
      refine norm_ (a' := ?_) ?_ ?_
      rotate_left
      · show Act.put _ (some 57) _ = _
        simp only [Act.put, List.setIfInBounds_toArray, List.set_cons_zero, List.set_cons_succ, i64_w, i32_w]
        rfl
      refine pureA 27 58 HT_.out ?_
      refine pureA 28 59 HT_.out ?_
      refine pureN 29 60 HT_.out ?_
      refine pureN 30 61 HT_.out ?_
      refine pureA 31 62 HT_.out ?_
      refine pureA 32 63 HT_.out ?_
      refine done_ (done_of HT_.out (by kernel_rfl)) ?_
      try go_wp2
      go_meet
      case rel => exact ⟨_, (false), rfl, H', ⟨by first | omega | exact Nat.le_refl _⟩, ⟨HO614.out⟩, ⟨HO620.out⟩, ⟨HO626.out⟩, ⟨BK627.out⟩, ⟨BK628.out⟩, ⟨BK629.out⟩, ⟨by repeat (first | (with_reducible first | exact HB.out | apply below_alloc | apply pw_below_drewN | apply below_drew1 | refine below_set ?_ GE627.out | refine below_set ?_ GE628.out | refine below_set ?_ GE629.out) | exact HB.out)⟩⟩
    rw [if_pos c40] at H
    have c40b0 : decide (t630 ≤ 0) = true := decide_eq_true c40
    clear c40
    (first | rw [c40b0] | (simp only [i64_w, i32_w]; rw [c40b0]) | skip)
    by_cases c41 : t631 ≤ 0
    rotate_left
    · rw [if_neg c41] at H
      have c41b0 : decide (t631 ≤ 0) = false := decide_eq_false c41
      clear c41
      by_cases c75 : t630 ≥ 0
      rotate_left
      · rw [if_neg c75] at H
        have c75b0 : decide (0 ≤ t630) = false := decide_eq_false c75
        clear c75
        replace H := Option.bind_eq_some_iff.mp H
        obtain ⟨t643, A970, H⟩ := H
        have A97 := Aside0.mk A970
        clear A970
        replace H := Option.bind_eq_some_iff.mp H
        obtain ⟨t644, A980, H⟩ := H
        have A98 := Aside0.mk A980
        clear A980
        by_cases c99 : t643 > t644
        · rw [if_pos c99] at H
          have c99b0 : decide (t644 < t643) = true := decide_eq_true c99
          clear c99
          have H' := Aside0.mk H
          clear H
          try go_wp2
          replace HO611 := Aside0.mk (Kd.V_drew HO611.out)
          replace HO614 := Aside0.mk (Kd.R_drew HO614.out)
          replace HO617 := Aside0.mk (Kd.V_drew HO617.out)
          replace HO620 := Aside0.mk (Kd.R_drew HO620.out)
          replace HO623 := Aside0.mk (Kd.V_drew HO623.out)
          replace HO626 := Aside0.mk (Kd.R_drew HO626.out)
          replace BK627 := Aside0.mk (blk_drew BK627.out)
          replace BK628 := Aside0.mk (blk_drew BK628.out)
          replace BK629 := Aside0.mk (blk_drew BK629.out)
          replace HB := Aside0.mk (below_drew1 HB.out)
          refine start_ (n := 33) (S := fun w' => w'.cell? ⟨gb627, 0, none⟩ = some (.slice Ao26 t612.length co26) ∧ w'.cell? ⟨gb628, 0, none⟩ = some (.slice Ao30 t618.length co30)) (ds := []) #[false, false, false, false, false, false, false, false, false, false, false, false, false, false, false, false, false, false, false, false, false, false, false, false, false, false, false, false, false, false, false, false, false] (by kernel_rfl) rfl rfl ⟨(blk_cell BK627.out 0).trans rfl, (blk_cell BK628.out 0).trans rfl⟩ (fun hHeld => ?_); refine with_tabW numerarylaw02_NatOrder.tab3 numerarylaw02_NatOrder.bits3 (fun HT_ HW_ => ?_)
          generalize w39.drew = w100 at HO611 HO614 HO617 HO620 HO623 HO626 BK627 BK628 BK629 HB hHeld ⊢
          refine pureA 0 31 HT_.out ?_
          refine pureA 1 32 HT_.out ?_
          refine pureA 2 33 HT_.out ?_
          refine pureA 3 34 HT_.out ?_
          refine pureA 4 35 HT_.out ?_
          refine pureA 5 36 HT_.out ?_
          refine pureA 6 37 HT_.out ?_
          refine pureN 7 38 HT_.out ?_
          refine pureN 8 39 HT_.out ?_
          refine pureA 9 40 HT_.out ?_
          refine pureA 10 41 HT_.out ?_
          refine pureA 11 42 HT_.out ?_
          refine pureA 12 43 HT_.out ?_
          refine pureA 13 44 HT_.out ?_
          refine pureN 14 45 HT_.out ?_
          refine pureN 15 46 HT_.out ?_
          refine pureA 16 47 HT_.out ?_
          refine pureA 17 48 HT_.out ?_
          refine pureN 18 49 HT_.out ?_
          refine pureN 19 50 HT_.out ?_
          refine pureA 20 51 HT_.out ?_
          refine pureA 21 52 HT_.out ?_
          refine pureA 22 53 HT_.out ?_
          refine take_ (i := 23) (N := some 54) (v := ?_) (a' := ?_) #[true, true, true, true, true, true, true, true, true, true, true, true, true, true, true, true, true, true, true, true, true, true, true, true, false, false, false, false, false, false, false, false, false] rfl rfl (take_ofW HT_.out HW_.out (by kernel_rfl)) (fun _ _ _ h => h) (Or.inl ⟨by rfl, ?_⟩) hHeld ?_ ?_
          rotate_left
          · rintro w' ⟨s0, s1⟩
            go_simp
            with_reducible rfl
          rotate_left
          · simp only [Act.put, List.setIfInBounds_toArray, List.set_cons_zero, List.set_cons_succ, i64_w, i32_w]
            rfl
          refine take_ (i := 25) (N := some 56) (v := ?_) (a' := ?_) #[true, true, true, true, true, true, true, true, true, true, true, true, true, true, true, true, true, true, true, true, true, true, true, true, false, true, false, false, false, false, false, false, false] rfl rfl (take_ofW HT_.out HW_.out (by kernel_rfl)) (fun _ _ _ h => h) (Or.inl ⟨by rfl, ?_⟩) hHeld ?_ ?_
          rotate_left
          · rintro w' ⟨s0, s1⟩
            go_simp
            with_reducible rfl
          rotate_left
          · simp only [Act.put, List.setIfInBounds_toArray, List.set_cons_zero, List.set_cons_succ, i64_w, i32_w]
            rfl
          refine one_ (i := 24) (N := some 55) #[true, true, true, true, true, true, true, true, true, true, true, true, true, true, true, true, true, true, true, true, true, true, true, true, true, true, false, false, false, false, false, false, false] rfl rfl (one_of HT_.out (by kernel_rfl)) (by decide) (fun K hK => ?_)
          refine goes_ Try.func33 (by kernel_rfl) rfl #[.agg #[.slice Ao26 t612.length co26]] (by rfl) rfl rfl (by (try simp only [List.map_toArray, List.map_cons, List.map_nil]); first | done | rfl | (simp only [List.length_drop, List.length_take]; rfl)) ?_
          with_reducible refine (nat_Nat_Bits.calls _ _ t612 t643 _ ?side1 ?side2 A97.out).mono ?_
          (case side1 => exact (Kd.R_reads' HO614.out).2.2)
          (case side2 => exact (Kd.R_reads' HO614.out).2.1)
          rintro e w101 ⟨rfl, hb⟩
          refine ⟨_, rfl, ?_⟩
          replace HO611 := Aside0.mk (Kd.V_below HO611.out hb)
          replace HO614 := Aside0.mk (Kd.R_below HO614.out hb)
          replace HO617 := Aside0.mk (Kd.V_below HO617.out hb)
          replace HO620 := Aside0.mk (Kd.R_below HO620.out hb)
          replace HO623 := Aside0.mk (Kd.V_below HO623.out hb)
          replace HO626 := Aside0.mk (Kd.R_below HO626.out hb)
          replace BK627 := Aside0.mk (blk_below (g := gb627) (o := .cells #[.slice Ao26 t612.length co26] 25 (0, 0)) BK627.out hb)
          replace BK628 := Aside0.mk (blk_below (g := gb628) (o := .cells #[.slice Ao30 t618.length co30] 25 (0, 0)) BK628.out hb)
          replace BK629 := Aside0.mk (blk_below (g := gb629) (o := .cells #[.slice Ao33 t624.length co33] 25 (0, 0)) BK629.out hb)
          replace HB := Aside0.mk (below_step (by repeat (first | (with_reducible first | exact HB.out | apply below_alloc | apply pw_below_drewN | apply below_drew1 | refine below_set ?_ GE627.out | refine below_set ?_ GE628.out | refine below_set ?_ GE629.out) | exact HB.out)) hb)
          (try clear hb)
          (try clear hb2)
          (try clear hk)
          (try clear hi)
          refine hK.out _ _ ⟨(blk_cell BK627.out 0).trans rfl, (blk_cell BK628.out 0).trans rfl⟩ (fun hHeld => ?_)
          clear hK K
          refine norm_ (a' := ?_) ?_ ?_
          rotate_left
          · show Act.put _ (some 55) _ = _
            simp only [Act.put, List.setIfInBounds_toArray, List.set_cons_zero, List.set_cons_succ, i64_w, i32_w]
            rfl
          refine one_ (i := 26) (N := some 57) #[true, true, true, true, true, true, true, true, true, true, true, true, true, true, true, true, true, true, true, true, true, true, true, true, true, true, true, false, false, false, false, false, false] rfl rfl (one_of HT_.out (by kernel_rfl)) (by decide) (fun K hK => ?_)
          refine goes_ Try.func33 (by kernel_rfl) rfl #[.agg #[.slice Ao30 t618.length co30]] (by rfl) rfl rfl (by (try simp only [List.map_toArray, List.map_cons, List.map_nil]); first | done | rfl | (simp only [List.length_drop, List.length_take]; rfl)) ?_
          with_reducible refine (nat_Nat_Bits.calls _ _ t618 t644 _ ?side1 ?side2 A98.out).mono ?_
          (case side1 => exact (Kd.R_reads' HO620.out).2.2)
          (case side2 => exact (Kd.R_reads' HO620.out).2.1)
          rintro e w102 ⟨rfl, hb⟩
          refine ⟨_, rfl, ?_⟩
          replace HO611 := Aside0.mk (Kd.V_below HO611.out hb)
          replace HO614 := Aside0.mk (Kd.R_below HO614.out hb)
          replace HO617 := Aside0.mk (Kd.V_below HO617.out hb)
          replace HO620 := Aside0.mk (Kd.R_below HO620.out hb)
          replace HO623 := Aside0.mk (Kd.V_below HO623.out hb)
          replace HO626 := Aside0.mk (Kd.R_below HO626.out hb)
          replace BK627 := Aside0.mk (blk_below (g := gb627) (o := .cells #[.slice Ao26 t612.length co26] 25 (0, 0)) BK627.out hb)
          replace BK628 := Aside0.mk (blk_below (g := gb628) (o := .cells #[.slice Ao30 t618.length co30] 25 (0, 0)) BK628.out hb)
          replace BK629 := Aside0.mk (blk_below (g := gb629) (o := .cells #[.slice Ao33 t624.length co33] 25 (0, 0)) BK629.out hb)
          replace HB := Aside0.mk (below_step (by repeat (first | (with_reducible first | exact HB.out | apply below_alloc | apply pw_below_drewN | apply below_drew1 | refine below_set ?_ GE627.out | refine below_set ?_ GE628.out | refine below_set ?_ GE629.out) | exact HB.out)) hb)
          (try clear hb)
          (try clear hb2)
          (try clear hk)
          (try clear hi)
          refine hK.out _ _ ⟨(blk_cell BK627.out 0).trans rfl, (blk_cell BK628.out 0).trans rfl⟩ (fun hHeld => ?_)
          clear hK K
          refine norm_ (a' := ?_) ?_ ?_
          rotate_left
          · show Act.put _ (some 57) _ = _
            simp only [Act.put, List.setIfInBounds_toArray, List.set_cons_zero, List.set_cons_succ, i64_w, i32_w]
            rfl
          refine pureA 27 58 HT_.out ?_
          refine pureA 28 59 HT_.out ?_
          refine pureA 29 60 HT_.out ?_
          refine pureA 30 61 HT_.out ?_
          refine pureA 31 62 HT_.out ?_
          refine pureA 32 63 HT_.out ?_
          refine done_ (done_of HT_.out (by kernel_rfl)) ?_
          try go_wp2
          go_meet
          case rel => exact ⟨_, ((t630 != 1)), rfl, H', ⟨by first | omega | exact Nat.le_refl _⟩, ⟨HO614.out⟩, ⟨HO620.out⟩, ⟨HO626.out⟩, ⟨BK627.out⟩, ⟨BK628.out⟩, ⟨BK629.out⟩, ⟨by repeat (first | (with_reducible first | exact HB.out | apply below_alloc | apply pw_below_drewN | apply below_drew1 | refine below_set ?_ GE627.out | refine below_set ?_ GE628.out | refine below_set ?_ GE629.out) | exact HB.out)⟩⟩
        rw [if_neg c99] at H
        have c99b0 : decide (t644 < t643) = false := decide_eq_false c99
        clear c99
        have H' := Aside0.mk H
        clear H
        try go_wp2
        replace HO611 := Aside0.mk (Kd.V_drew HO611.out)
        replace HO614 := Aside0.mk (Kd.R_drew HO614.out)
        replace HO617 := Aside0.mk (Kd.V_drew HO617.out)
        replace HO620 := Aside0.mk (Kd.R_drew HO620.out)
        replace HO623 := Aside0.mk (Kd.V_drew HO623.out)
        replace HO626 := Aside0.mk (Kd.R_drew HO626.out)
        replace BK627 := Aside0.mk (blk_drew BK627.out)
        replace BK628 := Aside0.mk (blk_drew BK628.out)
        replace BK629 := Aside0.mk (blk_drew BK629.out)
        replace HB := Aside0.mk (below_drew1 HB.out)
        refine start_ (n := 33) (S := fun w' => w'.cell? ⟨gb627, 0, none⟩ = some (.slice Ao26 t612.length co26) ∧ w'.cell? ⟨gb628, 0, none⟩ = some (.slice Ao30 t618.length co30)) (ds := []) #[false, false, false, false, false, false, false, false, false, false, false, false, false, false, false, false, false, false, false, false, false, false, false, false, false, false, false, false, false, false, false, false, false] (by kernel_rfl) rfl rfl ⟨(blk_cell BK627.out 0).trans rfl, (blk_cell BK628.out 0).trans rfl⟩ (fun hHeld => ?_); refine with_tabW numerarylaw02_NatOrder.tab3 numerarylaw02_NatOrder.bits3 (fun HT_ HW_ => ?_)
        generalize w39.drew = w103 at HO611 HO614 HO617 HO620 HO623 HO626 BK627 BK628 BK629 HB hHeld ⊢
        refine pureA 0 31 HT_.out ?_
        refine pureA 1 32 HT_.out ?_
        refine pureA 2 33 HT_.out ?_
        refine pureA 3 34 HT_.out ?_
        refine pureA 4 35 HT_.out ?_
        refine pureA 5 36 HT_.out ?_
        refine pureA 6 37 HT_.out ?_
        refine pureN 7 38 HT_.out ?_
        refine pureN 8 39 HT_.out ?_
        refine pureA 9 40 HT_.out ?_
        refine pureA 10 41 HT_.out ?_
        refine pureA 11 42 HT_.out ?_
        refine pureA 12 43 HT_.out ?_
        refine pureA 13 44 HT_.out ?_
        refine pureN 14 45 HT_.out ?_
        refine pureN 15 46 HT_.out ?_
        refine pureA 16 47 HT_.out ?_
        refine pureA 17 48 HT_.out ?_
        refine pureN 18 49 HT_.out ?_
        refine pureN 19 50 HT_.out ?_
        refine pureA 20 51 HT_.out ?_
        refine pureA 21 52 HT_.out ?_
        refine pureA 22 53 HT_.out ?_
        refine take_ (i := 23) (N := some 54) (v := ?_) (a' := ?_) #[true, true, true, true, true, true, true, true, true, true, true, true, true, true, true, true, true, true, true, true, true, true, true, true, false, false, false, false, false, false, false, false, false] rfl rfl (take_ofW HT_.out HW_.out (by kernel_rfl)) (fun _ _ _ h => h) (Or.inl ⟨by rfl, ?_⟩) hHeld ?_ ?_
        rotate_left
        · rintro w' ⟨s0, s1⟩
          go_simp
          with_reducible rfl
        rotate_left
        · simp only [Act.put, List.setIfInBounds_toArray, List.set_cons_zero, List.set_cons_succ, i64_w, i32_w]
          rfl
        refine take_ (i := 25) (N := some 56) (v := ?_) (a' := ?_) #[true, true, true, true, true, true, true, true, true, true, true, true, true, true, true, true, true, true, true, true, true, true, true, true, false, true, false, false, false, false, false, false, false] rfl rfl (take_ofW HT_.out HW_.out (by kernel_rfl)) (fun _ _ _ h => h) (Or.inl ⟨by rfl, ?_⟩) hHeld ?_ ?_
        rotate_left
        · rintro w' ⟨s0, s1⟩
          go_simp
          with_reducible rfl
        rotate_left
        · simp only [Act.put, List.setIfInBounds_toArray, List.set_cons_zero, List.set_cons_succ, i64_w, i32_w]
          rfl
        refine one_ (i := 24) (N := some 55) #[true, true, true, true, true, true, true, true, true, true, true, true, true, true, true, true, true, true, true, true, true, true, true, true, true, true, false, false, false, false, false, false, false] rfl rfl (one_of HT_.out (by kernel_rfl)) (by decide) (fun K hK => ?_)
        refine goes_ Try.func33 (by kernel_rfl) rfl #[.agg #[.slice Ao26 t612.length co26]] (by rfl) rfl rfl (by (try simp only [List.map_toArray, List.map_cons, List.map_nil]); first | done | rfl | (simp only [List.length_drop, List.length_take]; rfl)) ?_
        with_reducible refine (nat_Nat_Bits.calls _ _ t612 t643 _ ?side1 ?side2 A97.out).mono ?_
        (case side1 => exact (Kd.R_reads' HO614.out).2.2)
        (case side2 => exact (Kd.R_reads' HO614.out).2.1)
        rintro e w104 ⟨rfl, hb⟩
        refine ⟨_, rfl, ?_⟩
        replace HO611 := Aside0.mk (Kd.V_below HO611.out hb)
        replace HO614 := Aside0.mk (Kd.R_below HO614.out hb)
        replace HO617 := Aside0.mk (Kd.V_below HO617.out hb)
        replace HO620 := Aside0.mk (Kd.R_below HO620.out hb)
        replace HO623 := Aside0.mk (Kd.V_below HO623.out hb)
        replace HO626 := Aside0.mk (Kd.R_below HO626.out hb)
        replace BK627 := Aside0.mk (blk_below (g := gb627) (o := .cells #[.slice Ao26 t612.length co26] 25 (0, 0)) BK627.out hb)
        replace BK628 := Aside0.mk (blk_below (g := gb628) (o := .cells #[.slice Ao30 t618.length co30] 25 (0, 0)) BK628.out hb)
        replace BK629 := Aside0.mk (blk_below (g := gb629) (o := .cells #[.slice Ao33 t624.length co33] 25 (0, 0)) BK629.out hb)
        replace HB := Aside0.mk (below_step (by repeat (first | (with_reducible first | exact HB.out | apply below_alloc | apply pw_below_drewN | apply below_drew1 | refine below_set ?_ GE627.out | refine below_set ?_ GE628.out | refine below_set ?_ GE629.out) | exact HB.out)) hb)
        (try clear hb)
        (try clear hb2)
        (try clear hk)
        (try clear hi)
        refine hK.out _ _ ⟨(blk_cell BK627.out 0).trans rfl, (blk_cell BK628.out 0).trans rfl⟩ (fun hHeld => ?_)
        clear hK K
        refine norm_ (a' := ?_) ?_ ?_
        rotate_left
        · show Act.put _ (some 55) _ = _
          simp only [Act.put, List.setIfInBounds_toArray, List.set_cons_zero, List.set_cons_succ, i64_w, i32_w]
          rfl
        refine one_ (i := 26) (N := some 57) #[true, true, true, true, true, true, true, true, true, true, true, true, true, true, true, true, true, true, true, true, true, true, true, true, true, true, true, false, false, false, false, false, false] rfl rfl (one_of HT_.out (by kernel_rfl)) (by decide) (fun K hK => ?_)
        refine goes_ Try.func33 (by kernel_rfl) rfl #[.agg #[.slice Ao30 t618.length co30]] (by rfl) rfl rfl (by (try simp only [List.map_toArray, List.map_cons, List.map_nil]); first | done | rfl | (simp only [List.length_drop, List.length_take]; rfl)) ?_
        with_reducible refine (nat_Nat_Bits.calls _ _ t618 t644 _ ?side1 ?side2 A98.out).mono ?_
        (case side1 => exact (Kd.R_reads' HO620.out).2.2)
        (case side2 => exact (Kd.R_reads' HO620.out).2.1)
        rintro e w105 ⟨rfl, hb⟩
        refine ⟨_, rfl, ?_⟩
        replace HO611 := Aside0.mk (Kd.V_below HO611.out hb)
        replace HO614 := Aside0.mk (Kd.R_below HO614.out hb)
        replace HO617 := Aside0.mk (Kd.V_below HO617.out hb)
        replace HO620 := Aside0.mk (Kd.R_below HO620.out hb)
        replace HO623 := Aside0.mk (Kd.V_below HO623.out hb)
        replace HO626 := Aside0.mk (Kd.R_below HO626.out hb)
        replace BK627 := Aside0.mk (blk_below (g := gb627) (o := .cells #[.slice Ao26 t612.length co26] 25 (0, 0)) BK627.out hb)
        replace BK628 := Aside0.mk (blk_below (g := gb628) (o := .cells #[.slice Ao30 t618.length co30] 25 (0, 0)) BK628.out hb)
        replace BK629 := Aside0.mk (blk_below (g := gb629) (o := .cells #[.slice Ao33 t624.length co33] 25 (0, 0)) BK629.out hb)
        replace HB := Aside0.mk (below_step (by repeat (first | (with_reducible first | exact HB.out | apply below_alloc | apply pw_below_drewN | apply below_drew1 | refine below_set ?_ GE627.out | refine below_set ?_ GE628.out | refine below_set ?_ GE629.out) | exact HB.out)) hb)
        (try clear hb)
        (try clear hb2)
        (try clear hk)
        (try clear hi)
        refine hK.out _ _ ⟨(blk_cell BK627.out 0).trans rfl, (blk_cell BK628.out 0).trans rfl⟩ (fun hHeld => ?_)
        clear hK K
        refine norm_ (a' := ?_) ?_ ?_
        rotate_left
        · show Act.put _ (some 57) _ = _
          simp only [Act.put, List.setIfInBounds_toArray, List.set_cons_zero, List.set_cons_succ, i64_w, i32_w]
          rfl
        refine pureA 27 58 HT_.out ?_
        refine pureA 28 59 HT_.out ?_
        refine pureN 29 60 HT_.out ?_
        refine pureN 30 61 HT_.out ?_
        refine pureA 31 62 HT_.out ?_
        refine pureA 32 63 HT_.out ?_
        refine done_ (done_of HT_.out (by kernel_rfl)) ?_
        try go_wp2
        go_meet
        case rel => exact ⟨_, (false), rfl, H', ⟨by first | omega | exact Nat.le_refl _⟩, ⟨HO614.out⟩, ⟨HO620.out⟩, ⟨HO626.out⟩, ⟨BK627.out⟩, ⟨BK628.out⟩, ⟨BK629.out⟩, ⟨by repeat (first | (with_reducible first | exact HB.out | apply below_alloc | apply pw_below_drewN | apply below_drew1 | refine below_set ?_ GE627.out | refine below_set ?_ GE628.out | refine below_set ?_ GE629.out) | exact HB.out)⟩⟩
      rw [if_pos c75] at H
      have c75b0 : decide (0 ≤ t630) = true := decide_eq_true c75
      clear c75
      by_cases c76 : t631 ≥ 0
      rotate_left
      · rw [if_neg c76] at H
        have c76b0 : decide (0 ≤ t631) = false := decide_eq_false c76
        clear c76
        replace H := Option.bind_eq_some_iff.mp H
        obtain ⟨t641, A880, H⟩ := H
        have A88 := Aside0.mk A880
        clear A880
        replace H := Option.bind_eq_some_iff.mp H
        obtain ⟨t642, A890, H⟩ := H
        have A89 := Aside0.mk A890
        clear A890
        by_cases c90 : t641 > t642
        · rw [if_pos c90] at H
          have c90b0 : decide (t642 < t641) = true := decide_eq_true c90
          clear c90
          have H' := Aside0.mk H
          clear H
          try go_wp2
          replace HO611 := Aside0.mk (Kd.V_drew HO611.out)
          replace HO614 := Aside0.mk (Kd.R_drew HO614.out)
          replace HO617 := Aside0.mk (Kd.V_drew HO617.out)
          replace HO620 := Aside0.mk (Kd.R_drew HO620.out)
          replace HO623 := Aside0.mk (Kd.V_drew HO623.out)
          replace HO626 := Aside0.mk (Kd.R_drew HO626.out)
          replace BK627 := Aside0.mk (blk_drew BK627.out)
          replace BK628 := Aside0.mk (blk_drew BK628.out)
          replace BK629 := Aside0.mk (blk_drew BK629.out)
          replace HB := Aside0.mk (below_drew1 HB.out)
          refine start_ (n := 33) (S := fun w' => w'.cell? ⟨gb627, 0, none⟩ = some (.slice Ao26 t612.length co26) ∧ w'.cell? ⟨gb628, 0, none⟩ = some (.slice Ao30 t618.length co30)) (ds := []) #[false, false, false, false, false, false, false, false, false, false, false, false, false, false, false, false, false, false, false, false, false, false, false, false, false, false, false, false, false, false, false, false, false] (by kernel_rfl) rfl rfl ⟨(blk_cell BK627.out 0).trans rfl, (blk_cell BK628.out 0).trans rfl⟩ (fun hHeld => ?_); refine with_tabW numerarylaw02_NatOrder.tab3 numerarylaw02_NatOrder.bits3 (fun HT_ HW_ => ?_)
          generalize w39.drew = w91 at HO611 HO614 HO617 HO620 HO623 HO626 BK627 BK628 BK629 HB hHeld ⊢
          refine pureA 0 31 HT_.out ?_
          refine pureA 1 32 HT_.out ?_
          refine pureA 2 33 HT_.out ?_
          refine pureA 3 34 HT_.out ?_
          refine pureA 4 35 HT_.out ?_
          refine pureA 5 36 HT_.out ?_
          refine pureA 6 37 HT_.out ?_
          refine pureN 7 38 HT_.out ?_
          refine pureN 8 39 HT_.out ?_
          refine pureA 9 40 HT_.out ?_
          refine pureA 10 41 HT_.out ?_
          refine pureA 11 42 HT_.out ?_
          refine pureA 12 43 HT_.out ?_
          refine pureA 13 44 HT_.out ?_
          refine pureA 14 45 HT_.out ?_
          refine pureA 15 46 HT_.out ?_
          refine pureA 16 47 HT_.out ?_
          refine pureA 17 48 HT_.out ?_
          refine pureN 18 49 HT_.out ?_
          refine pureN 19 50 HT_.out ?_
          refine pureA 20 51 HT_.out ?_
          refine pureA 21 52 HT_.out ?_
          refine pureA 22 53 HT_.out ?_
          refine take_ (i := 23) (N := some 54) (v := ?_) (a' := ?_) #[true, true, true, true, true, true, true, true, true, true, true, true, true, true, true, true, true, true, true, true, true, true, true, true, false, false, false, false, false, false, false, false, false] rfl rfl (take_ofW HT_.out HW_.out (by kernel_rfl)) (fun _ _ _ h => h) (Or.inl ⟨by rfl, ?_⟩) hHeld ?_ ?_
          rotate_left
          · rintro w' ⟨s0, s1⟩
            go_simp
            with_reducible rfl
          rotate_left
          · simp only [Act.put, List.setIfInBounds_toArray, List.set_cons_zero, List.set_cons_succ, i64_w, i32_w]
            rfl
          refine take_ (i := 25) (N := some 56) (v := ?_) (a' := ?_) #[true, true, true, true, true, true, true, true, true, true, true, true, true, true, true, true, true, true, true, true, true, true, true, true, false, true, false, false, false, false, false, false, false] rfl rfl (take_ofW HT_.out HW_.out (by kernel_rfl)) (fun _ _ _ h => h) (Or.inl ⟨by rfl, ?_⟩) hHeld ?_ ?_
          rotate_left
          · rintro w' ⟨s0, s1⟩
            go_simp
            with_reducible rfl
          rotate_left
          · simp only [Act.put, List.setIfInBounds_toArray, List.set_cons_zero, List.set_cons_succ, i64_w, i32_w]
            rfl
          refine one_ (i := 24) (N := some 55) #[true, true, true, true, true, true, true, true, true, true, true, true, true, true, true, true, true, true, true, true, true, true, true, true, true, true, false, false, false, false, false, false, false] rfl rfl (one_of HT_.out (by kernel_rfl)) (by decide) (fun K hK => ?_)
          refine goes_ Try.func33 (by kernel_rfl) rfl #[.agg #[.slice Ao26 t612.length co26]] (by rfl) rfl rfl (by (try simp only [List.map_toArray, List.map_cons, List.map_nil]); first | done | rfl | (simp only [List.length_drop, List.length_take]; rfl)) ?_
          with_reducible refine (nat_Nat_Bits.calls _ _ t612 t641 _ ?side1 ?side2 A88.out).mono ?_
          (case side1 => exact (Kd.R_reads' HO614.out).2.2)
          (case side2 => exact (Kd.R_reads' HO614.out).2.1)
          rintro e w92 ⟨rfl, hb⟩
          refine ⟨_, rfl, ?_⟩
          replace HO611 := Aside0.mk (Kd.V_below HO611.out hb)
          replace HO614 := Aside0.mk (Kd.R_below HO614.out hb)
          replace HO617 := Aside0.mk (Kd.V_below HO617.out hb)
          replace HO620 := Aside0.mk (Kd.R_below HO620.out hb)
          replace HO623 := Aside0.mk (Kd.V_below HO623.out hb)
          replace HO626 := Aside0.mk (Kd.R_below HO626.out hb)
          replace BK627 := Aside0.mk (blk_below (g := gb627) (o := .cells #[.slice Ao26 t612.length co26] 25 (0, 0)) BK627.out hb)
          replace BK628 := Aside0.mk (blk_below (g := gb628) (o := .cells #[.slice Ao30 t618.length co30] 25 (0, 0)) BK628.out hb)
          replace BK629 := Aside0.mk (blk_below (g := gb629) (o := .cells #[.slice Ao33 t624.length co33] 25 (0, 0)) BK629.out hb)
          replace HB := Aside0.mk (below_step (by repeat (first | (with_reducible first | exact HB.out | apply below_alloc | apply pw_below_drewN | apply below_drew1 | refine below_set ?_ GE627.out | refine below_set ?_ GE628.out | refine below_set ?_ GE629.out) | exact HB.out)) hb)
          (try clear hb)
          (try clear hb2)
          (try clear hk)
          (try clear hi)
          refine hK.out _ _ ⟨(blk_cell BK627.out 0).trans rfl, (blk_cell BK628.out 0).trans rfl⟩ (fun hHeld => ?_)
          clear hK K
          refine norm_ (a' := ?_) ?_ ?_
          rotate_left
          · show Act.put _ (some 55) _ = _
            simp only [Act.put, List.setIfInBounds_toArray, List.set_cons_zero, List.set_cons_succ, i64_w, i32_w]
            rfl
          refine one_ (i := 26) (N := some 57) #[true, true, true, true, true, true, true, true, true, true, true, true, true, true, true, true, true, true, true, true, true, true, true, true, true, true, true, false, false, false, false, false, false] rfl rfl (one_of HT_.out (by kernel_rfl)) (by decide) (fun K hK => ?_)
          refine goes_ Try.func33 (by kernel_rfl) rfl #[.agg #[.slice Ao30 t618.length co30]] (by rfl) rfl rfl (by (try simp only [List.map_toArray, List.map_cons, List.map_nil]); first | done | rfl | (simp only [List.length_drop, List.length_take]; rfl)) ?_
          with_reducible refine (nat_Nat_Bits.calls _ _ t618 t642 _ ?side1 ?side2 A89.out).mono ?_
          (case side1 => exact (Kd.R_reads' HO620.out).2.2)
          (case side2 => exact (Kd.R_reads' HO620.out).2.1)
          rintro e w93 ⟨rfl, hb⟩
          refine ⟨_, rfl, ?_⟩
          replace HO611 := Aside0.mk (Kd.V_below HO611.out hb)
          replace HO614 := Aside0.mk (Kd.R_below HO614.out hb)
          replace HO617 := Aside0.mk (Kd.V_below HO617.out hb)
          replace HO620 := Aside0.mk (Kd.R_below HO620.out hb)
          replace HO623 := Aside0.mk (Kd.V_below HO623.out hb)
          replace HO626 := Aside0.mk (Kd.R_below HO626.out hb)
          replace BK627 := Aside0.mk (blk_below (g := gb627) (o := .cells #[.slice Ao26 t612.length co26] 25 (0, 0)) BK627.out hb)
          replace BK628 := Aside0.mk (blk_below (g := gb628) (o := .cells #[.slice Ao30 t618.length co30] 25 (0, 0)) BK628.out hb)
          replace BK629 := Aside0.mk (blk_below (g := gb629) (o := .cells #[.slice Ao33 t624.length co33] 25 (0, 0)) BK629.out hb)
          replace HB := Aside0.mk (below_step (by repeat (first | (with_reducible first | exact HB.out | apply below_alloc | apply pw_below_drewN | apply below_drew1 | refine below_set ?_ GE627.out | refine below_set ?_ GE628.out | refine below_set ?_ GE629.out) | exact HB.out)) hb)
          (try clear hb)
          (try clear hb2)
          (try clear hk)
          (try clear hi)
          refine hK.out _ _ ⟨(blk_cell BK627.out 0).trans rfl, (blk_cell BK628.out 0).trans rfl⟩ (fun hHeld => ?_)
          clear hK K
          refine norm_ (a' := ?_) ?_ ?_
          rotate_left
          · show Act.put _ (some 57) _ = _
            simp only [Act.put, List.setIfInBounds_toArray, List.set_cons_zero, List.set_cons_succ, i64_w, i32_w]
            rfl
          refine pureA 27 58 HT_.out ?_
          refine pureA 28 59 HT_.out ?_
          refine pureA 29 60 HT_.out ?_
          refine pureA 30 61 HT_.out ?_
          refine pureA 31 62 HT_.out ?_
          refine pureA 32 63 HT_.out ?_
          refine done_ (done_of HT_.out (by kernel_rfl)) ?_
          try go_wp2
          go_meet
          case rel => exact ⟨_, ((t630 != 1)), rfl, H', ⟨by first | omega | exact Nat.le_refl _⟩, ⟨HO614.out⟩, ⟨HO620.out⟩, ⟨HO626.out⟩, ⟨BK627.out⟩, ⟨BK628.out⟩, ⟨BK629.out⟩, ⟨by repeat (first | (with_reducible first | exact HB.out | apply below_alloc | apply pw_below_drewN | apply below_drew1 | refine below_set ?_ GE627.out | refine below_set ?_ GE628.out | refine below_set ?_ GE629.out) | exact HB.out)⟩⟩
        rw [if_neg c90] at H
        have c90b0 : decide (t642 < t641) = false := decide_eq_false c90
        clear c90
        have H' := Aside0.mk H
        clear H
        try go_wp2
        replace HO611 := Aside0.mk (Kd.V_drew HO611.out)
        replace HO614 := Aside0.mk (Kd.R_drew HO614.out)
        replace HO617 := Aside0.mk (Kd.V_drew HO617.out)
        replace HO620 := Aside0.mk (Kd.R_drew HO620.out)
        replace HO623 := Aside0.mk (Kd.V_drew HO623.out)
        replace HO626 := Aside0.mk (Kd.R_drew HO626.out)
        replace BK627 := Aside0.mk (blk_drew BK627.out)
        replace BK628 := Aside0.mk (blk_drew BK628.out)
        replace BK629 := Aside0.mk (blk_drew BK629.out)
        replace HB := Aside0.mk (below_drew1 HB.out)
        refine start_ (n := 33) (S := fun w' => w'.cell? ⟨gb627, 0, none⟩ = some (.slice Ao26 t612.length co26) ∧ w'.cell? ⟨gb628, 0, none⟩ = some (.slice Ao30 t618.length co30)) (ds := []) #[false, false, false, false, false, false, false, false, false, false, false, false, false, false, false, false, false, false, false, false, false, false, false, false, false, false, false, false, false, false, false, false, false] (by kernel_rfl) rfl rfl ⟨(blk_cell BK627.out 0).trans rfl, (blk_cell BK628.out 0).trans rfl⟩ (fun hHeld => ?_); refine with_tabW numerarylaw02_NatOrder.tab3 numerarylaw02_NatOrder.bits3 (fun HT_ HW_ => ?_)
        generalize w39.drew = w94 at HO611 HO614 HO617 HO620 HO623 HO626 BK627 BK628 BK629 HB hHeld ⊢
        refine pureA 0 31 HT_.out ?_
        refine pureA 1 32 HT_.out ?_
        refine pureA 2 33 HT_.out ?_
        refine pureA 3 34 HT_.out ?_
        refine pureA 4 35 HT_.out ?_
        refine pureA 5 36 HT_.out ?_
        refine pureA 6 37 HT_.out ?_
        refine pureN 7 38 HT_.out ?_
        refine pureN 8 39 HT_.out ?_
        refine pureA 9 40 HT_.out ?_
        refine pureA 10 41 HT_.out ?_
        refine pureA 11 42 HT_.out ?_
        refine pureA 12 43 HT_.out ?_
        refine pureA 13 44 HT_.out ?_
        refine pureA 14 45 HT_.out ?_
        refine pureA 15 46 HT_.out ?_
        refine pureA 16 47 HT_.out ?_
        refine pureA 17 48 HT_.out ?_
        refine pureN 18 49 HT_.out ?_
        refine pureN 19 50 HT_.out ?_
        refine pureA 20 51 HT_.out ?_
        refine pureA 21 52 HT_.out ?_
        refine pureA 22 53 HT_.out ?_
        refine take_ (i := 23) (N := some 54) (v := ?_) (a' := ?_) #[true, true, true, true, true, true, true, true, true, true, true, true, true, true, true, true, true, true, true, true, true, true, true, true, false, false, false, false, false, false, false, false, false] rfl rfl (take_ofW HT_.out HW_.out (by kernel_rfl)) (fun _ _ _ h => h) (Or.inl ⟨by rfl, ?_⟩) hHeld ?_ ?_
        rotate_left
        · rintro w' ⟨s0, s1⟩
          go_simp
          with_reducible rfl
        rotate_left
        · simp only [Act.put, List.setIfInBounds_toArray, List.set_cons_zero, List.set_cons_succ, i64_w, i32_w]
          rfl
        refine take_ (i := 25) (N := some 56) (v := ?_) (a' := ?_) #[true, true, true, true, true, true, true, true, true, true, true, true, true, true, true, true, true, true, true, true, true, true, true, true, false, true, false, false, false, false, false, false, false] rfl rfl (take_ofW HT_.out HW_.out (by kernel_rfl)) (fun _ _ _ h => h) (Or.inl ⟨by rfl, ?_⟩) hHeld ?_ ?_
        rotate_left
        · rintro w' ⟨s0, s1⟩
          go_simp
          with_reducible rfl
        rotate_left
        · simp only [Act.put, List.setIfInBounds_toArray, List.set_cons_zero, List.set_cons_succ, i64_w, i32_w]
          rfl
        refine one_ (i := 24) (N := some 55) #[true, true, true, true, true, true, true, true, true, true, true, true, true, true, true, true, true, true, true, true, true, true, true, true, true, true, false, false, false, false, false, false, false] rfl rfl (one_of HT_.out (by kernel_rfl)) (by decide) (fun K hK => ?_)
        refine goes_ Try.func33 (by kernel_rfl) rfl #[.agg #[.slice Ao26 t612.length co26]] (by rfl) rfl rfl (by (try simp only [List.map_toArray, List.map_cons, List.map_nil]); first | done | rfl | (simp only [List.length_drop, List.length_take]; rfl)) ?_
        with_reducible refine (nat_Nat_Bits.calls _ _ t612 t641 _ ?side1 ?side2 A88.out).mono ?_
        (case side1 => exact (Kd.R_reads' HO614.out).2.2)
        (case side2 => exact (Kd.R_reads' HO614.out).2.1)
        rintro e w95 ⟨rfl, hb⟩
        refine ⟨_, rfl, ?_⟩
        replace HO611 := Aside0.mk (Kd.V_below HO611.out hb)
        replace HO614 := Aside0.mk (Kd.R_below HO614.out hb)
        replace HO617 := Aside0.mk (Kd.V_below HO617.out hb)
        replace HO620 := Aside0.mk (Kd.R_below HO620.out hb)
        replace HO623 := Aside0.mk (Kd.V_below HO623.out hb)
        replace HO626 := Aside0.mk (Kd.R_below HO626.out hb)
        replace BK627 := Aside0.mk (blk_below (g := gb627) (o := .cells #[.slice Ao26 t612.length co26] 25 (0, 0)) BK627.out hb)
        replace BK628 := Aside0.mk (blk_below (g := gb628) (o := .cells #[.slice Ao30 t618.length co30] 25 (0, 0)) BK628.out hb)
        replace BK629 := Aside0.mk (blk_below (g := gb629) (o := .cells #[.slice Ao33 t624.length co33] 25 (0, 0)) BK629.out hb)
        replace HB := Aside0.mk (below_step (by repeat (first | (with_reducible first | exact HB.out | apply below_alloc | apply pw_below_drewN | apply below_drew1 | refine below_set ?_ GE627.out | refine below_set ?_ GE628.out | refine below_set ?_ GE629.out) | exact HB.out)) hb)
        (try clear hb)
        (try clear hb2)
        (try clear hk)
        (try clear hi)
        refine hK.out _ _ ⟨(blk_cell BK627.out 0).trans rfl, (blk_cell BK628.out 0).trans rfl⟩ (fun hHeld => ?_)
        clear hK K
        refine norm_ (a' := ?_) ?_ ?_
        rotate_left
        · show Act.put _ (some 55) _ = _
          simp only [Act.put, List.setIfInBounds_toArray, List.set_cons_zero, List.set_cons_succ, i64_w, i32_w]
          rfl
        refine one_ (i := 26) (N := some 57) #[true, true, true, true, true, true, true, true, true, true, true, true, true, true, true, true, true, true, true, true, true, true, true, true, true, true, true, false, false, false, false, false, false] rfl rfl (one_of HT_.out (by kernel_rfl)) (by decide) (fun K hK => ?_)
        refine goes_ Try.func33 (by kernel_rfl) rfl #[.agg #[.slice Ao30 t618.length co30]] (by rfl) rfl rfl (by (try simp only [List.map_toArray, List.map_cons, List.map_nil]); first | done | rfl | (simp only [List.length_drop, List.length_take]; rfl)) ?_
        with_reducible refine (nat_Nat_Bits.calls _ _ t618 t642 _ ?side1 ?side2 A89.out).mono ?_
        (case side1 => exact (Kd.R_reads' HO620.out).2.2)
        (case side2 => exact (Kd.R_reads' HO620.out).2.1)
        rintro e w96 ⟨rfl, hb⟩
        refine ⟨_, rfl, ?_⟩
        replace HO611 := Aside0.mk (Kd.V_below HO611.out hb)
        replace HO614 := Aside0.mk (Kd.R_below HO614.out hb)
        replace HO617 := Aside0.mk (Kd.V_below HO617.out hb)
        replace HO620 := Aside0.mk (Kd.R_below HO620.out hb)
        replace HO623 := Aside0.mk (Kd.V_below HO623.out hb)
        replace HO626 := Aside0.mk (Kd.R_below HO626.out hb)
        replace BK627 := Aside0.mk (blk_below (g := gb627) (o := .cells #[.slice Ao26 t612.length co26] 25 (0, 0)) BK627.out hb)
        replace BK628 := Aside0.mk (blk_below (g := gb628) (o := .cells #[.slice Ao30 t618.length co30] 25 (0, 0)) BK628.out hb)
        replace BK629 := Aside0.mk (blk_below (g := gb629) (o := .cells #[.slice Ao33 t624.length co33] 25 (0, 0)) BK629.out hb)
        replace HB := Aside0.mk (below_step (by repeat (first | (with_reducible first | exact HB.out | apply below_alloc | apply pw_below_drewN | apply below_drew1 | refine below_set ?_ GE627.out | refine below_set ?_ GE628.out | refine below_set ?_ GE629.out) | exact HB.out)) hb)
        (try clear hb)
        (try clear hb2)
        (try clear hk)
        (try clear hi)
        refine hK.out _ _ ⟨(blk_cell BK627.out 0).trans rfl, (blk_cell BK628.out 0).trans rfl⟩ (fun hHeld => ?_)
        clear hK K
        refine norm_ (a' := ?_) ?_ ?_
        rotate_left
        · show Act.put _ (some 57) _ = _
          simp only [Act.put, List.setIfInBounds_toArray, List.set_cons_zero, List.set_cons_succ, i64_w, i32_w]
          rfl
        refine pureA 27 58 HT_.out ?_
        refine pureA 28 59 HT_.out ?_
        refine pureN 29 60 HT_.out ?_
        refine pureN 30 61 HT_.out ?_
        refine pureA 31 62 HT_.out ?_
        refine pureA 32 63 HT_.out ?_
        refine done_ (done_of HT_.out (by kernel_rfl)) ?_
        try go_wp2
        go_meet
        case rel => exact ⟨_, (false), rfl, H', ⟨by first | omega | exact Nat.le_refl _⟩, ⟨HO614.out⟩, ⟨HO620.out⟩, ⟨HO626.out⟩, ⟨BK627.out⟩, ⟨BK628.out⟩, ⟨BK629.out⟩, ⟨by repeat (first | (with_reducible first | exact HB.out | apply below_alloc | apply pw_below_drewN | apply below_drew1 | refine below_set ?_ GE627.out | refine below_set ?_ GE628.out | refine below_set ?_ GE629.out) | exact HB.out)⟩⟩
      rw [if_pos c76] at H
      have c76b0 : decide (0 ≤ t631) = true := decide_eq_true c76
      clear c76
      by_cases c77 : t632 < 0
      · rw [if_pos c77] at H
        have c77b0 : decide (t632 < 0) = true := decide_eq_true c77
        clear c77
        have H' := Aside0.mk H
        clear H
        try go_wp2
        replace HO611 := Aside0.mk (Kd.V_drew HO611.out)
        replace HO614 := Aside0.mk (Kd.R_drew HO614.out)
        replace HO617 := Aside0.mk (Kd.V_drew HO617.out)
        replace HO620 := Aside0.mk (Kd.R_drew HO620.out)
        replace HO623 := Aside0.mk (Kd.V_drew HO623.out)
        replace HO626 := Aside0.mk (Kd.R_drew HO626.out)
        replace BK627 := Aside0.mk (blk_drew BK627.out)
        replace BK628 := Aside0.mk (blk_drew BK628.out)
        replace BK629 := Aside0.mk (blk_drew BK629.out)
        replace HB := Aside0.mk (below_drew1 HB.out)
        refine start_ (n := 33) (S := fun w' => True) (ds := []) #[false, false, false, false, false, false, false, false, false, false, false, false, false, false, false, false, false, false, false, false, false, false, false, false, false, false, false, false, false, false, false, false, false] (by kernel_rfl) rfl rfl trivial (fun hHeld => ?_); refine with_tabW numerarylaw02_NatOrder.tab3 numerarylaw02_NatOrder.bits3 (fun HT_ HW_ => ?_)
        generalize w39.drew = w78 at HO611 HO614 HO617 HO620 HO623 HO626 BK627 BK628 BK629 HB hHeld ⊢
        refine pureA 0 31 HT_.out ?_
        refine pureA 1 32 HT_.out ?_
        refine pureA 2 33 HT_.out ?_
        refine pureA 3 34 HT_.out ?_
        refine pureA 4 35 HT_.out ?_
        refine pureA 5 36 HT_.out ?_
        refine pureA 6 37 HT_.out ?_
        refine pureN 7 38 HT_.out ?_
        refine pureN 8 39 HT_.out ?_
        refine pureA 9 40 HT_.out ?_
        refine pureA 10 41 HT_.out ?_
        refine pureA 11 42 HT_.out ?_
        refine pureA 12 43 HT_.out ?_
        refine pureA 13 44 HT_.out ?_
        refine pureA 14 45 HT_.out ?_
        refine pureA 15 46 HT_.out ?_
        refine pureA 16 47 HT_.out ?_
        refine pureA 17 48 HT_.out ?_
        refine pureA 18 49 HT_.out ?_
        refine pureA 19 50 HT_.out ?_
        refine pureA 20 51 HT_.out ?_
        refine pureA 21 52 HT_.out ?_
        refine pureA 22 53 HT_.out ?_
        refine pureN 23 54 HT_.out ?_
        refine pureN 24 55 HT_.out ?_
        refine pureN 25 56 HT_.out ?_
        refine pureN 26 57 HT_.out ?_
        refine pureN 27 58 HT_.out ?_
        refine pureN 28 59 HT_.out ?_
        refine pureN 29 60 HT_.out ?_
        refine pureN 30 61 HT_.out ?_
        refine pureN 31 62 HT_.out ?_
        refine pureA 32 63 HT_.out ?_
        refine done_ (done_of HT_.out (by kernel_rfl)) ?_
        try go_wp2
        go_meet
        case rel => exact ⟨_, (true), rfl, H', ⟨by first | omega | exact Nat.le_refl _⟩, ⟨HO614.out⟩, ⟨HO620.out⟩, ⟨HO626.out⟩, ⟨BK627.out⟩, ⟨BK628.out⟩, ⟨BK629.out⟩, ⟨by repeat (first | (with_reducible first | exact HB.out | apply below_alloc | apply pw_below_drewN | apply below_drew1 | refine below_set ?_ GE627.out | refine below_set ?_ GE628.out | refine below_set ?_ GE629.out) | exact HB.out)⟩⟩
      rw [if_neg c77] at H
      have c77b0 : decide (t632 < 0) = false := decide_eq_false c77
      clear c77
      replace H := Option.bind_eq_some_iff.mp H
      obtain ⟨t639, A790, H⟩ := H
      have A79 := Aside0.mk A790
      clear A790
      replace H := Option.bind_eq_some_iff.mp H
      obtain ⟨t640, A800, H⟩ := H
      have A80 := Aside0.mk A800
      clear A800
      by_cases c81 : t639 > t640
      · rw [if_pos c81] at H
        have c81b0 : decide (t640 < t639) = true := decide_eq_true c81
        clear c81
        have H' := Aside0.mk H
        clear H
        try go_wp2
        replace HO611 := Aside0.mk (Kd.V_drew HO611.out)
        replace HO614 := Aside0.mk (Kd.R_drew HO614.out)
        replace HO617 := Aside0.mk (Kd.V_drew HO617.out)
        replace HO620 := Aside0.mk (Kd.R_drew HO620.out)
        replace HO623 := Aside0.mk (Kd.V_drew HO623.out)
        replace HO626 := Aside0.mk (Kd.R_drew HO626.out)
        replace BK627 := Aside0.mk (blk_drew BK627.out)
        replace BK628 := Aside0.mk (blk_drew BK628.out)
        replace BK629 := Aside0.mk (blk_drew BK629.out)
        replace HB := Aside0.mk (below_drew1 HB.out)
        refine start_ (n := 33) (S := fun w' => w'.cell? ⟨gb627, 0, none⟩ = some (.slice Ao26 t612.length co26) ∧ w'.cell? ⟨gb628, 0, none⟩ = some (.slice Ao30 t618.length co30)) (ds := []) #[false, false, false, false, false, false, false, false, false, false, false, false, false, false, false, false, false, false, false, false, false, false, false, false, false, false, false, false, false, false, false, false, false] (by kernel_rfl) rfl rfl ⟨(blk_cell BK627.out 0).trans rfl, (blk_cell BK628.out 0).trans rfl⟩ (fun hHeld => ?_); refine with_tabW numerarylaw02_NatOrder.tab3 numerarylaw02_NatOrder.bits3 (fun HT_ HW_ => ?_)
        generalize w39.drew = w82 at HO611 HO614 HO617 HO620 HO623 HO626 BK627 BK628 BK629 HB hHeld ⊢
        refine pureA 0 31 HT_.out ?_
        refine pureA 1 32 HT_.out ?_
        refine pureA 2 33 HT_.out ?_
        refine pureA 3 34 HT_.out ?_
        refine pureA 4 35 HT_.out ?_
        refine pureA 5 36 HT_.out ?_
        refine pureA 6 37 HT_.out ?_
        refine pureN 7 38 HT_.out ?_
        refine pureN 8 39 HT_.out ?_
        refine pureA 9 40 HT_.out ?_
        refine pureA 10 41 HT_.out ?_
        refine pureA 11 42 HT_.out ?_
        refine pureA 12 43 HT_.out ?_
        refine pureA 13 44 HT_.out ?_
        refine pureA 14 45 HT_.out ?_
        refine pureA 15 46 HT_.out ?_
        refine pureA 16 47 HT_.out ?_
        refine pureA 17 48 HT_.out ?_
        refine pureA 18 49 HT_.out ?_
        refine pureA 19 50 HT_.out ?_
        refine pureA 20 51 HT_.out ?_
        refine pureA 21 52 HT_.out ?_
        refine pureA 22 53 HT_.out ?_
        refine take_ (i := 23) (N := some 54) (v := ?_) (a' := ?_) #[true, true, true, true, true, true, true, true, true, true, true, true, true, true, true, true, true, true, true, true, true, true, true, true, false, false, false, false, false, false, false, false, false] rfl rfl (take_ofW HT_.out HW_.out (by kernel_rfl)) (fun _ _ _ h => h) (Or.inl ⟨by rfl, ?_⟩) hHeld ?_ ?_
        rotate_left
        · rintro w' ⟨s0, s1⟩
          go_simp
          with_reducible rfl
        rotate_left
        · simp only [Act.put, List.setIfInBounds_toArray, List.set_cons_zero, List.set_cons_succ, i64_w, i32_w]
          rfl
        refine take_ (i := 25) (N := some 56) (v := ?_) (a' := ?_) #[true, true, true, true, true, true, true, true, true, true, true, true, true, true, true, true, true, true, true, true, true, true, true, true, false, true, false, false, false, false, false, false, false] rfl rfl (take_ofW HT_.out HW_.out (by kernel_rfl)) (fun _ _ _ h => h) (Or.inl ⟨by rfl, ?_⟩) hHeld ?_ ?_
        rotate_left
        · rintro w' ⟨s0, s1⟩
          go_simp
          with_reducible rfl
        rotate_left
        · simp only [Act.put, List.setIfInBounds_toArray, List.set_cons_zero, List.set_cons_succ, i64_w, i32_w]
          rfl
        refine one_ (i := 24) (N := some 55) #[true, true, true, true, true, true, true, true, true, true, true, true, true, true, true, true, true, true, true, true, true, true, true, true, true, true, false, false, false, false, false, false, false] rfl rfl (one_of HT_.out (by kernel_rfl)) (by decide) (fun K hK => ?_)
        refine goes_ Try.func33 (by kernel_rfl) rfl #[.agg #[.slice Ao26 t612.length co26]] (by rfl) rfl rfl (by (try simp only [List.map_toArray, List.map_cons, List.map_nil]); first | done | rfl | (simp only [List.length_drop, List.length_take]; rfl)) ?_
        with_reducible refine (nat_Nat_Bits.calls _ _ t612 t639 _ ?side1 ?side2 A79.out).mono ?_
        (case side1 => exact (Kd.R_reads' HO614.out).2.2)
        (case side2 => exact (Kd.R_reads' HO614.out).2.1)
        rintro e w83 ⟨rfl, hb⟩
        refine ⟨_, rfl, ?_⟩
        replace HO611 := Aside0.mk (Kd.V_below HO611.out hb)
        replace HO614 := Aside0.mk (Kd.R_below HO614.out hb)
        replace HO617 := Aside0.mk (Kd.V_below HO617.out hb)
        replace HO620 := Aside0.mk (Kd.R_below HO620.out hb)
        replace HO623 := Aside0.mk (Kd.V_below HO623.out hb)
        replace HO626 := Aside0.mk (Kd.R_below HO626.out hb)
        replace BK627 := Aside0.mk (blk_below (g := gb627) (o := .cells #[.slice Ao26 t612.length co26] 25 (0, 0)) BK627.out hb)
        replace BK628 := Aside0.mk (blk_below (g := gb628) (o := .cells #[.slice Ao30 t618.length co30] 25 (0, 0)) BK628.out hb)
        replace BK629 := Aside0.mk (blk_below (g := gb629) (o := .cells #[.slice Ao33 t624.length co33] 25 (0, 0)) BK629.out hb)
        replace HB := Aside0.mk (below_step (by repeat (first | (with_reducible first | exact HB.out | apply below_alloc | apply pw_below_drewN | apply below_drew1 | refine below_set ?_ GE627.out | refine below_set ?_ GE628.out | refine below_set ?_ GE629.out) | exact HB.out)) hb)
        (try clear hb)
        (try clear hb2)
        (try clear hk)
        (try clear hi)
        refine hK.out _ _ ⟨(blk_cell BK627.out 0).trans rfl, (blk_cell BK628.out 0).trans rfl⟩ (fun hHeld => ?_)
        clear hK K
        refine norm_ (a' := ?_) ?_ ?_
        rotate_left
        · show Act.put _ (some 55) _ = _
          simp only [Act.put, List.setIfInBounds_toArray, List.set_cons_zero, List.set_cons_succ, i64_w, i32_w]
          rfl
        refine one_ (i := 26) (N := some 57) #[true, true, true, true, true, true, true, true, true, true, true, true, true, true, true, true, true, true, true, true, true, true, true, true, true, true, true, false, false, false, false, false, false] rfl rfl (one_of HT_.out (by kernel_rfl)) (by decide) (fun K hK => ?_)
        refine goes_ Try.func33 (by kernel_rfl) rfl #[.agg #[.slice Ao30 t618.length co30]] (by rfl) rfl rfl (by (try simp only [List.map_toArray, List.map_cons, List.map_nil]); first | done | rfl | (simp only [List.length_drop, List.length_take]; rfl)) ?_
        with_reducible refine (nat_Nat_Bits.calls _ _ t618 t640 _ ?side1 ?side2 A80.out).mono ?_
        (case side1 => exact (Kd.R_reads' HO620.out).2.2)
        (case side2 => exact (Kd.R_reads' HO620.out).2.1)
        rintro e w84 ⟨rfl, hb⟩
        refine ⟨_, rfl, ?_⟩
        replace HO611 := Aside0.mk (Kd.V_below HO611.out hb)
        replace HO614 := Aside0.mk (Kd.R_below HO614.out hb)
        replace HO617 := Aside0.mk (Kd.V_below HO617.out hb)
        replace HO620 := Aside0.mk (Kd.R_below HO620.out hb)
        replace HO623 := Aside0.mk (Kd.V_below HO623.out hb)
        replace HO626 := Aside0.mk (Kd.R_below HO626.out hb)
        replace BK627 := Aside0.mk (blk_below (g := gb627) (o := .cells #[.slice Ao26 t612.length co26] 25 (0, 0)) BK627.out hb)
        replace BK628 := Aside0.mk (blk_below (g := gb628) (o := .cells #[.slice Ao30 t618.length co30] 25 (0, 0)) BK628.out hb)
        replace BK629 := Aside0.mk (blk_below (g := gb629) (o := .cells #[.slice Ao33 t624.length co33] 25 (0, 0)) BK629.out hb)
        replace HB := Aside0.mk (below_step (by repeat (first | (with_reducible first | exact HB.out | apply below_alloc | apply pw_below_drewN | apply below_drew1 | refine below_set ?_ GE627.out | refine below_set ?_ GE628.out | refine below_set ?_ GE629.out) | exact HB.out)) hb)
        (try clear hb)
        (try clear hb2)
        (try clear hk)
        (try clear hi)
        refine hK.out _ _ ⟨(blk_cell BK627.out 0).trans rfl, (blk_cell BK628.out 0).trans rfl⟩ (fun hHeld => ?_)
        clear hK K
        refine norm_ (a' := ?_) ?_ ?_
        rotate_left
        · show Act.put _ (some 57) _ = _
          simp only [Act.put, List.setIfInBounds_toArray, List.set_cons_zero, List.set_cons_succ, i64_w, i32_w]
          rfl
        refine pureA 27 58 HT_.out ?_
        refine pureA 28 59 HT_.out ?_
        refine pureA 29 60 HT_.out ?_
        refine pureA 30 61 HT_.out ?_
        refine pureA 31 62 HT_.out ?_
        refine pureA 32 63 HT_.out ?_
        refine done_ (done_of HT_.out (by kernel_rfl)) ?_
        try go_wp2
        go_meet
        case rel => exact ⟨_, ((t630 != 1)), rfl, H', ⟨by first | omega | exact Nat.le_refl _⟩, ⟨HO614.out⟩, ⟨HO620.out⟩, ⟨HO626.out⟩, ⟨BK627.out⟩, ⟨BK628.out⟩, ⟨BK629.out⟩, ⟨by repeat (first | (with_reducible first | exact HB.out | apply below_alloc | apply pw_below_drewN | apply below_drew1 | refine below_set ?_ GE627.out | refine below_set ?_ GE628.out | refine below_set ?_ GE629.out) | exact HB.out)⟩⟩
      rw [if_neg c81] at H
      have c81b0 : decide (t640 < t639) = false := decide_eq_false c81
      clear c81
      have H' := Aside0.mk H
      clear H
      try go_wp2
      replace HO611 := Aside0.mk (Kd.V_drew HO611.out)
      replace HO614 := Aside0.mk (Kd.R_drew HO614.out)
      replace HO617 := Aside0.mk (Kd.V_drew HO617.out)
      replace HO620 := Aside0.mk (Kd.R_drew HO620.out)
      replace HO623 := Aside0.mk (Kd.V_drew HO623.out)
      replace HO626 := Aside0.mk (Kd.R_drew HO626.out)
      replace BK627 := Aside0.mk (blk_drew BK627.out)
      replace BK628 := Aside0.mk (blk_drew BK628.out)
      replace BK629 := Aside0.mk (blk_drew BK629.out)
      replace HB := Aside0.mk (below_drew1 HB.out)
      refine start_ (n := 33) (S := fun w' => w'.cell? ⟨gb627, 0, none⟩ = some (.slice Ao26 t612.length co26) ∧ w'.cell? ⟨gb628, 0, none⟩ = some (.slice Ao30 t618.length co30)) (ds := []) #[false, false, false, false, false, false, false, false, false, false, false, false, false, false, false, false, false, false, false, false, false, false, false, false, false, false, false, false, false, false, false, false, false] (by kernel_rfl) rfl rfl ⟨(blk_cell BK627.out 0).trans rfl, (blk_cell BK628.out 0).trans rfl⟩ (fun hHeld => ?_); refine with_tabW numerarylaw02_NatOrder.tab3 numerarylaw02_NatOrder.bits3 (fun HT_ HW_ => ?_)
      generalize w39.drew = w85 at HO611 HO614 HO617 HO620 HO623 HO626 BK627 BK628 BK629 HB hHeld ⊢
      refine pureA 0 31 HT_.out ?_
      refine pureA 1 32 HT_.out ?_
      refine pureA 2 33 HT_.out ?_
      refine pureA 3 34 HT_.out ?_
      refine pureA 4 35 HT_.out ?_
      refine pureA 5 36 HT_.out ?_
      refine pureA 6 37 HT_.out ?_
      refine pureN 7 38 HT_.out ?_
      refine pureN 8 39 HT_.out ?_
      refine pureA 9 40 HT_.out ?_
      refine pureA 10 41 HT_.out ?_
      refine pureA 11 42 HT_.out ?_
      refine pureA 12 43 HT_.out ?_
      refine pureA 13 44 HT_.out ?_
      refine pureA 14 45 HT_.out ?_
      refine pureA 15 46 HT_.out ?_
      refine pureA 16 47 HT_.out ?_
      refine pureA 17 48 HT_.out ?_
      refine pureA 18 49 HT_.out ?_
      refine pureA 19 50 HT_.out ?_
      refine pureA 20 51 HT_.out ?_
      refine pureA 21 52 HT_.out ?_
      refine pureA 22 53 HT_.out ?_
      refine take_ (i := 23) (N := some 54) (v := ?_) (a' := ?_) #[true, true, true, true, true, true, true, true, true, true, true, true, true, true, true, true, true, true, true, true, true, true, true, true, false, false, false, false, false, false, false, false, false] rfl rfl (take_ofW HT_.out HW_.out (by kernel_rfl)) (fun _ _ _ h => h) (Or.inl ⟨by rfl, ?_⟩) hHeld ?_ ?_
      rotate_left
      · rintro w' ⟨s0, s1⟩
        go_simp
        with_reducible rfl
      rotate_left
      · simp only [Act.put, List.setIfInBounds_toArray, List.set_cons_zero, List.set_cons_succ, i64_w, i32_w]
        rfl
      refine take_ (i := 25) (N := some 56) (v := ?_) (a' := ?_) #[true, true, true, true, true, true, true, true, true, true, true, true, true, true, true, true, true, true, true, true, true, true, true, true, false, true, false, false, false, false, false, false, false] rfl rfl (take_ofW HT_.out HW_.out (by kernel_rfl)) (fun _ _ _ h => h) (Or.inl ⟨by rfl, ?_⟩) hHeld ?_ ?_
      rotate_left
      · rintro w' ⟨s0, s1⟩
        go_simp
        with_reducible rfl
      rotate_left
      · simp only [Act.put, List.setIfInBounds_toArray, List.set_cons_zero, List.set_cons_succ, i64_w, i32_w]
        rfl
      refine one_ (i := 24) (N := some 55) #[true, true, true, true, true, true, true, true, true, true, true, true, true, true, true, true, true, true, true, true, true, true, true, true, true, true, false, false, false, false, false, false, false] rfl rfl (one_of HT_.out (by kernel_rfl)) (by decide) (fun K hK => ?_)
      refine goes_ Try.func33 (by kernel_rfl) rfl #[.agg #[.slice Ao26 t612.length co26]] (by rfl) rfl rfl (by (try simp only [List.map_toArray, List.map_cons, List.map_nil]); first | done | rfl | (simp only [List.length_drop, List.length_take]; rfl)) ?_
      with_reducible refine (nat_Nat_Bits.calls _ _ t612 t639 _ ?side1 ?side2 A79.out).mono ?_
      (case side1 => exact (Kd.R_reads' HO614.out).2.2)
      (case side2 => exact (Kd.R_reads' HO614.out).2.1)
      rintro e w86 ⟨rfl, hb⟩
      refine ⟨_, rfl, ?_⟩
      replace HO611 := Aside0.mk (Kd.V_below HO611.out hb)
      replace HO614 := Aside0.mk (Kd.R_below HO614.out hb)
      replace HO617 := Aside0.mk (Kd.V_below HO617.out hb)
      replace HO620 := Aside0.mk (Kd.R_below HO620.out hb)
      replace HO623 := Aside0.mk (Kd.V_below HO623.out hb)
      replace HO626 := Aside0.mk (Kd.R_below HO626.out hb)
      replace BK627 := Aside0.mk (blk_below (g := gb627) (o := .cells #[.slice Ao26 t612.length co26] 25 (0, 0)) BK627.out hb)
      replace BK628 := Aside0.mk (blk_below (g := gb628) (o := .cells #[.slice Ao30 t618.length co30] 25 (0, 0)) BK628.out hb)
      replace BK629 := Aside0.mk (blk_below (g := gb629) (o := .cells #[.slice Ao33 t624.length co33] 25 (0, 0)) BK629.out hb)
      replace HB := Aside0.mk (below_step (by repeat (first | (with_reducible first | exact HB.out | apply below_alloc | apply pw_below_drewN | apply below_drew1 | refine below_set ?_ GE627.out | refine below_set ?_ GE628.out | refine below_set ?_ GE629.out) | exact HB.out)) hb)
      (try clear hb)
      (try clear hb2)
      (try clear hk)
      (try clear hi)
      refine hK.out _ _ ⟨(blk_cell BK627.out 0).trans rfl, (blk_cell BK628.out 0).trans rfl⟩ (fun hHeld => ?_)
      clear hK K
      refine norm_ (a' := ?_) ?_ ?_
      rotate_left
      · show Act.put _ (some 55) _ = _
        simp only [Act.put, List.setIfInBounds_toArray, List.set_cons_zero, List.set_cons_succ, i64_w, i32_w]
        rfl
      refine one_ (i := 26) (N := some 57) #[true, true, true, true, true, true, true, true, true, true, true, true, true, true, true, true, true, true, true, true, true, true, true, true, true, true, true, false, false, false, false, false, false] rfl rfl (one_of HT_.out (by kernel_rfl)) (by decide) (fun K hK => ?_)
      refine goes_ Try.func33 (by kernel_rfl) rfl #[.agg #[.slice Ao30 t618.length co30]] (by rfl) rfl rfl (by (try simp only [List.map_toArray, List.map_cons, List.map_nil]); first | done | rfl | (simp only [List.length_drop, List.length_take]; rfl)) ?_
      with_reducible refine (nat_Nat_Bits.calls _ _ t618 t640 _ ?side1 ?side2 A80.out).mono ?_
      (case side1 => exact (Kd.R_reads' HO620.out).2.2)
      (case side2 => exact (Kd.R_reads' HO620.out).2.1)
      rintro e w87 ⟨rfl, hb⟩
      refine ⟨_, rfl, ?_⟩
      replace HO611 := Aside0.mk (Kd.V_below HO611.out hb)
      replace HO614 := Aside0.mk (Kd.R_below HO614.out hb)
      replace HO617 := Aside0.mk (Kd.V_below HO617.out hb)
      replace HO620 := Aside0.mk (Kd.R_below HO620.out hb)
      replace HO623 := Aside0.mk (Kd.V_below HO623.out hb)
      replace HO626 := Aside0.mk (Kd.R_below HO626.out hb)
      replace BK627 := Aside0.mk (blk_below (g := gb627) (o := .cells #[.slice Ao26 t612.length co26] 25 (0, 0)) BK627.out hb)
      replace BK628 := Aside0.mk (blk_below (g := gb628) (o := .cells #[.slice Ao30 t618.length co30] 25 (0, 0)) BK628.out hb)
      replace BK629 := Aside0.mk (blk_below (g := gb629) (o := .cells #[.slice Ao33 t624.length co33] 25 (0, 0)) BK629.out hb)
      replace HB := Aside0.mk (below_step (by repeat (first | (with_reducible first | exact HB.out | apply below_alloc | apply pw_below_drewN | apply below_drew1 | refine below_set ?_ GE627.out | refine below_set ?_ GE628.out | refine below_set ?_ GE629.out) | exact HB.out)) hb)
      (try clear hb)
      (try clear hb2)
      (try clear hk)
      (try clear hi)
      refine hK.out _ _ ⟨(blk_cell BK627.out 0).trans rfl, (blk_cell BK628.out 0).trans rfl⟩ (fun hHeld => ?_)
      clear hK K
      refine norm_ (a' := ?_) ?_ ?_
      rotate_left
      · show Act.put _ (some 57) _ = _
        simp only [Act.put, List.setIfInBounds_toArray, List.set_cons_zero, List.set_cons_succ, i64_w, i32_w]
        rfl
      refine pureA 27 58 HT_.out ?_
      refine pureA 28 59 HT_.out ?_
      refine pureN 29 60 HT_.out ?_
      refine pureN 30 61 HT_.out ?_
      refine pureA 31 62 HT_.out ?_
      refine pureA 32 63 HT_.out ?_
      refine done_ (done_of HT_.out (by kernel_rfl)) ?_
      try go_wp2
      go_meet
      case rel => exact ⟨_, (false), rfl, H', ⟨by first | omega | exact Nat.le_refl _⟩, ⟨HO614.out⟩, ⟨HO620.out⟩, ⟨HO626.out⟩, ⟨BK627.out⟩, ⟨BK628.out⟩, ⟨BK629.out⟩, ⟨by repeat (first | (with_reducible first | exact HB.out | apply below_alloc | apply pw_below_drewN | apply below_drew1 | refine below_set ?_ GE627.out | refine below_set ?_ GE628.out | refine below_set ?_ GE629.out) | exact HB.out)⟩⟩
    rw [if_pos c41] at H
    have c41b0 : decide (t631 ≤ 0) = true := decide_eq_true c41
    clear c41
    by_cases c42 : t632 > 0
    · rw [if_pos c42] at H
      have c42b0 : decide (0 < t632) = true := decide_eq_true c42
      clear c42
      have H' := Aside0.mk H
      clear H
      try go_wp2
      replace HO611 := Aside0.mk (Kd.V_drew HO611.out)
      replace HO614 := Aside0.mk (Kd.R_drew HO614.out)
      replace HO617 := Aside0.mk (Kd.V_drew HO617.out)
      replace HO620 := Aside0.mk (Kd.R_drew HO620.out)
      replace HO623 := Aside0.mk (Kd.V_drew HO623.out)
      replace HO626 := Aside0.mk (Kd.R_drew HO626.out)
      replace BK627 := Aside0.mk (blk_drew BK627.out)
      replace BK628 := Aside0.mk (blk_drew BK628.out)
      replace BK629 := Aside0.mk (blk_drew BK629.out)
      replace HB := Aside0.mk (below_drew1 HB.out)
      refine start_ (n := 33) (S := fun w' => True) (ds := []) #[false, false, false, false, false, false, false, false, false, false, false, false, false, false, false, false, false, false, false, false, false, false, false, false, false, false, false, false, false, false, false, false, false] (by kernel_rfl) rfl rfl trivial (fun hHeld => ?_); refine with_tabW numerarylaw02_NatOrder.tab3 numerarylaw02_NatOrder.bits3 (fun HT_ HW_ => ?_)
      generalize w39.drew = w43 at HO611 HO614 HO617 HO620 HO623 HO626 BK627 BK628 BK629 HB hHeld ⊢
      refine pureA 0 31 HT_.out ?_
      refine pureA 1 32 HT_.out ?_
      refine pureA 2 33 HT_.out ?_
      refine pureA 3 34 HT_.out ?_
      refine pureA 4 35 HT_.out ?_
      refine pureA 5 36 HT_.out ?_
      refine pureA 6 37 HT_.out ?_
      refine pureA 7 38 HT_.out ?_
      refine pureA 8 39 HT_.out ?_
      refine pureA 9 40 HT_.out ?_
      refine pureA 10 41 HT_.out ?_
      refine pureN 11 42 HT_.out ?_
      refine pureN 12 43 HT_.out ?_
      refine pureN 13 44 HT_.out ?_
      refine pureN 14 45 HT_.out ?_
      refine pureN 15 46 HT_.out ?_
      refine pureN 16 47 HT_.out ?_
      refine pureN 17 48 HT_.out ?_
      refine pureN 18 49 HT_.out ?_
      refine pureN 19 50 HT_.out ?_
      refine pureN 20 51 HT_.out ?_
      refine pureA 21 52 HT_.out ?_
      refine pureA 22 53 HT_.out ?_
      refine pureN 23 54 HT_.out ?_
      refine pureN 24 55 HT_.out ?_
      refine pureN 25 56 HT_.out ?_
      refine pureN 26 57 HT_.out ?_
      refine pureN 27 58 HT_.out ?_
      refine pureN 28 59 HT_.out ?_
      refine pureN 29 60 HT_.out ?_
      refine pureN 30 61 HT_.out ?_
      refine pureN 31 62 HT_.out ?_
      refine pureA 32 63 HT_.out ?_
      refine done_ (done_of HT_.out (by kernel_rfl)) ?_
      try go_wp2
      go_meet
      case rel => exact ⟨_, (true), rfl, H', ⟨by first | omega | exact Nat.le_refl _⟩, ⟨HO614.out⟩, ⟨HO620.out⟩, ⟨HO626.out⟩, ⟨BK627.out⟩, ⟨BK628.out⟩, ⟨BK629.out⟩, ⟨by repeat (first | (with_reducible first | exact HB.out | apply below_alloc | apply pw_below_drewN | apply below_drew1 | refine below_set ?_ GE627.out | refine below_set ?_ GE628.out | refine below_set ?_ GE629.out) | exact HB.out)⟩⟩
    rw [if_neg c42] at H
    have c42b0 : decide (0 < t632) = false := decide_eq_false c42
    clear c42
    by_cases c44 : t630 ≥ 0
    rotate_left
    · rw [if_neg c44] at H
      have c44b0 : decide (0 ≤ t630) = false := decide_eq_false c44
      clear c44
      replace H := Option.bind_eq_some_iff.mp H
      obtain ⟨t637, A660, H⟩ := H
      have A66 := Aside0.mk A660
      clear A660
      replace H := Option.bind_eq_some_iff.mp H
      obtain ⟨t638, A670, H⟩ := H
      have A67 := Aside0.mk A670
      clear A670
      by_cases c68 : t637 > t638
      · rw [if_pos c68] at H
        have c68b0 : decide (t638 < t637) = true := decide_eq_true c68
        clear c68
        have H' := Aside0.mk H
        clear H
        try go_wp2
        replace HO611 := Aside0.mk (Kd.V_drew HO611.out)
        replace HO614 := Aside0.mk (Kd.R_drew HO614.out)
        replace HO617 := Aside0.mk (Kd.V_drew HO617.out)
        replace HO620 := Aside0.mk (Kd.R_drew HO620.out)
        replace HO623 := Aside0.mk (Kd.V_drew HO623.out)
        replace HO626 := Aside0.mk (Kd.R_drew HO626.out)
        replace BK627 := Aside0.mk (blk_drew BK627.out)
        replace BK628 := Aside0.mk (blk_drew BK628.out)
        replace BK629 := Aside0.mk (blk_drew BK629.out)
        replace HB := Aside0.mk (below_drew1 HB.out)
        refine start_ (n := 33) (S := fun w' => w'.cell? ⟨gb627, 0, none⟩ = some (.slice Ao26 t612.length co26) ∧ w'.cell? ⟨gb628, 0, none⟩ = some (.slice Ao30 t618.length co30)) (ds := []) #[false, false, false, false, false, false, false, false, false, false, false, false, false, false, false, false, false, false, false, false, false, false, false, false, false, false, false, false, false, false, false, false, false] (by kernel_rfl) rfl rfl ⟨(blk_cell BK627.out 0).trans rfl, (blk_cell BK628.out 0).trans rfl⟩ (fun hHeld => ?_); refine with_tabW numerarylaw02_NatOrder.tab3 numerarylaw02_NatOrder.bits3 (fun HT_ HW_ => ?_)
        generalize w39.drew = w69 at HO611 HO614 HO617 HO620 HO623 HO626 BK627 BK628 BK629 HB hHeld ⊢
        refine pureA 0 31 HT_.out ?_
        refine pureA 1 32 HT_.out ?_
        refine pureA 2 33 HT_.out ?_
        refine pureA 3 34 HT_.out ?_
        refine pureA 4 35 HT_.out ?_
        refine pureA 5 36 HT_.out ?_
        refine pureA 6 37 HT_.out ?_
        refine pureA 7 38 HT_.out ?_
        refine pureA 8 39 HT_.out ?_
        refine pureA 9 40 HT_.out ?_
        refine pureA 10 41 HT_.out ?_
        refine pureA 11 42 HT_.out ?_
        refine pureA 12 43 HT_.out ?_
        refine pureA 13 44 HT_.out ?_
        refine pureN 14 45 HT_.out ?_
        refine pureN 15 46 HT_.out ?_
        refine pureA 16 47 HT_.out ?_
        refine pureA 17 48 HT_.out ?_
        refine pureN 18 49 HT_.out ?_
        refine pureN 19 50 HT_.out ?_
        refine pureA 20 51 HT_.out ?_
        refine pureA 21 52 HT_.out ?_
        refine pureA 22 53 HT_.out ?_
        refine take_ (i := 23) (N := some 54) (v := ?_) (a' := ?_) #[true, true, true, true, true, true, true, true, true, true, true, true, true, true, true, true, true, true, true, true, true, true, true, true, false, false, false, false, false, false, false, false, false] rfl rfl (take_ofW HT_.out HW_.out (by kernel_rfl)) (fun _ _ _ h => h) (Or.inl ⟨by rfl, ?_⟩) hHeld ?_ ?_
        rotate_left
        · rintro w' ⟨s0, s1⟩
          go_simp
          with_reducible rfl
        rotate_left
        · simp only [Act.put, List.setIfInBounds_toArray, List.set_cons_zero, List.set_cons_succ, i64_w, i32_w]
          rfl
        refine take_ (i := 25) (N := some 56) (v := ?_) (a' := ?_) #[true, true, true, true, true, true, true, true, true, true, true, true, true, true, true, true, true, true, true, true, true, true, true, true, false, true, false, false, false, false, false, false, false] rfl rfl (take_ofW HT_.out HW_.out (by kernel_rfl)) (fun _ _ _ h => h) (Or.inl ⟨by rfl, ?_⟩) hHeld ?_ ?_
        rotate_left
        · rintro w' ⟨s0, s1⟩
          go_simp
          with_reducible rfl
        rotate_left
        · simp only [Act.put, List.setIfInBounds_toArray, List.set_cons_zero, List.set_cons_succ, i64_w, i32_w]
          rfl
        refine one_ (i := 24) (N := some 55) #[true, true, true, true, true, true, true, true, true, true, true, true, true, true, true, true, true, true, true, true, true, true, true, true, true, true, false, false, false, false, false, false, false] rfl rfl (one_of HT_.out (by kernel_rfl)) (by decide) (fun K hK => ?_)
        refine goes_ Try.func33 (by kernel_rfl) rfl #[.agg #[.slice Ao26 t612.length co26]] (by rfl) rfl rfl (by (try simp only [List.map_toArray, List.map_cons, List.map_nil]); first | done | rfl | (simp only [List.length_drop, List.length_take]; rfl)) ?_
        with_reducible refine (nat_Nat_Bits.calls _ _ t612 t637 _ ?side1 ?side2 A66.out).mono ?_
        (case side1 => exact (Kd.R_reads' HO614.out).2.2)
        (case side2 => exact (Kd.R_reads' HO614.out).2.1)
        rintro e w70 ⟨rfl, hb⟩
        refine ⟨_, rfl, ?_⟩
        replace HO611 := Aside0.mk (Kd.V_below HO611.out hb)
        replace HO614 := Aside0.mk (Kd.R_below HO614.out hb)
        replace HO617 := Aside0.mk (Kd.V_below HO617.out hb)
        replace HO620 := Aside0.mk (Kd.R_below HO620.out hb)
        replace HO623 := Aside0.mk (Kd.V_below HO623.out hb)
        replace HO626 := Aside0.mk (Kd.R_below HO626.out hb)
        replace BK627 := Aside0.mk (blk_below (g := gb627) (o := .cells #[.slice Ao26 t612.length co26] 25 (0, 0)) BK627.out hb)
        replace BK628 := Aside0.mk (blk_below (g := gb628) (o := .cells #[.slice Ao30 t618.length co30] 25 (0, 0)) BK628.out hb)
        replace BK629 := Aside0.mk (blk_below (g := gb629) (o := .cells #[.slice Ao33 t624.length co33] 25 (0, 0)) BK629.out hb)
        replace HB := Aside0.mk (below_step (by repeat (first | (with_reducible first | exact HB.out | apply below_alloc | apply pw_below_drewN | apply below_drew1 | refine below_set ?_ GE627.out | refine below_set ?_ GE628.out | refine below_set ?_ GE629.out) | exact HB.out)) hb)
        (try clear hb)
        (try clear hb2)
        (try clear hk)
        (try clear hi)
        refine hK.out _ _ ⟨(blk_cell BK627.out 0).trans rfl, (blk_cell BK628.out 0).trans rfl⟩ (fun hHeld => ?_)
        clear hK K
        refine norm_ (a' := ?_) ?_ ?_
        rotate_left
        · show Act.put _ (some 55) _ = _
          simp only [Act.put, List.setIfInBounds_toArray, List.set_cons_zero, List.set_cons_succ, i64_w, i32_w]
          rfl
        refine one_ (i := 26) (N := some 57) #[true, true, true, true, true, true, true, true, true, true, true, true, true, true, true, true, true, true, true, true, true, true, true, true, true, true, true, false, false, false, false, false, false] rfl rfl (one_of HT_.out (by kernel_rfl)) (by decide) (fun K hK => ?_)
        refine goes_ Try.func33 (by kernel_rfl) rfl #[.agg #[.slice Ao30 t618.length co30]] (by rfl) rfl rfl (by (try simp only [List.map_toArray, List.map_cons, List.map_nil]); first | done | rfl | (simp only [List.length_drop, List.length_take]; rfl)) ?_
        with_reducible refine (nat_Nat_Bits.calls _ _ t618 t638 _ ?side1 ?side2 A67.out).mono ?_
        (case side1 => exact (Kd.R_reads' HO620.out).2.2)
        (case side2 => exact (Kd.R_reads' HO620.out).2.1)
        rintro e w71 ⟨rfl, hb⟩
        refine ⟨_, rfl, ?_⟩
        replace HO611 := Aside0.mk (Kd.V_below HO611.out hb)
        replace HO614 := Aside0.mk (Kd.R_below HO614.out hb)
        replace HO617 := Aside0.mk (Kd.V_below HO617.out hb)
        replace HO620 := Aside0.mk (Kd.R_below HO620.out hb)
        replace HO623 := Aside0.mk (Kd.V_below HO623.out hb)
        replace HO626 := Aside0.mk (Kd.R_below HO626.out hb)
        replace BK627 := Aside0.mk (blk_below (g := gb627) (o := .cells #[.slice Ao26 t612.length co26] 25 (0, 0)) BK627.out hb)
        replace BK628 := Aside0.mk (blk_below (g := gb628) (o := .cells #[.slice Ao30 t618.length co30] 25 (0, 0)) BK628.out hb)
        replace BK629 := Aside0.mk (blk_below (g := gb629) (o := .cells #[.slice Ao33 t624.length co33] 25 (0, 0)) BK629.out hb)
        replace HB := Aside0.mk (below_step (by repeat (first | (with_reducible first | exact HB.out | apply below_alloc | apply pw_below_drewN | apply below_drew1 | refine below_set ?_ GE627.out | refine below_set ?_ GE628.out | refine below_set ?_ GE629.out) | exact HB.out)) hb)
        (try clear hb)
        (try clear hb2)
        (try clear hk)
        (try clear hi)
        refine hK.out _ _ ⟨(blk_cell BK627.out 0).trans rfl, (blk_cell BK628.out 0).trans rfl⟩ (fun hHeld => ?_)
        clear hK K
        refine norm_ (a' := ?_) ?_ ?_
        rotate_left
        · show Act.put _ (some 57) _ = _
          simp only [Act.put, List.setIfInBounds_toArray, List.set_cons_zero, List.set_cons_succ, i64_w, i32_w]
          rfl
        refine pureA 27 58 HT_.out ?_
        refine pureA 28 59 HT_.out ?_
        refine pureA 29 60 HT_.out ?_
        refine pureA 30 61 HT_.out ?_
        refine pureA 31 62 HT_.out ?_
        refine pureA 32 63 HT_.out ?_
        refine done_ (done_of HT_.out (by kernel_rfl)) ?_
        try go_wp2
        go_meet
        case rel => exact ⟨_, ((t630 != 1)), rfl, H', ⟨by first | omega | exact Nat.le_refl _⟩, ⟨HO614.out⟩, ⟨HO620.out⟩, ⟨HO626.out⟩, ⟨BK627.out⟩, ⟨BK628.out⟩, ⟨BK629.out⟩, ⟨by repeat (first | (with_reducible first | exact HB.out | apply below_alloc | apply pw_below_drewN | apply below_drew1 | refine below_set ?_ GE627.out | refine below_set ?_ GE628.out | refine below_set ?_ GE629.out) | exact HB.out)⟩⟩
      rw [if_neg c68] at H
      have c68b0 : decide (t638 < t637) = false := decide_eq_false c68
      clear c68
      have H' := Aside0.mk H
      clear H
      try go_wp2
      replace HO611 := Aside0.mk (Kd.V_drew HO611.out)
      replace HO614 := Aside0.mk (Kd.R_drew HO614.out)
      replace HO617 := Aside0.mk (Kd.V_drew HO617.out)
      replace HO620 := Aside0.mk (Kd.R_drew HO620.out)
      replace HO623 := Aside0.mk (Kd.V_drew HO623.out)
      replace HO626 := Aside0.mk (Kd.R_drew HO626.out)
      replace BK627 := Aside0.mk (blk_drew BK627.out)
      replace BK628 := Aside0.mk (blk_drew BK628.out)
      replace BK629 := Aside0.mk (blk_drew BK629.out)
      replace HB := Aside0.mk (below_drew1 HB.out)
      refine start_ (n := 33) (S := fun w' => w'.cell? ⟨gb627, 0, none⟩ = some (.slice Ao26 t612.length co26) ∧ w'.cell? ⟨gb628, 0, none⟩ = some (.slice Ao30 t618.length co30)) (ds := []) #[false, false, false, false, false, false, false, false, false, false, false, false, false, false, false, false, false, false, false, false, false, false, false, false, false, false, false, false, false, false, false, false, false] (by kernel_rfl) rfl rfl ⟨(blk_cell BK627.out 0).trans rfl, (blk_cell BK628.out 0).trans rfl⟩ (fun hHeld => ?_); refine with_tabW numerarylaw02_NatOrder.tab3 numerarylaw02_NatOrder.bits3 (fun HT_ HW_ => ?_)
      generalize w39.drew = w72 at HO611 HO614 HO617 HO620 HO623 HO626 BK627 BK628 BK629 HB hHeld ⊢
      refine pureA 0 31 HT_.out ?_
      refine pureA 1 32 HT_.out ?_
      refine pureA 2 33 HT_.out ?_
      refine pureA 3 34 HT_.out ?_
      refine pureA 4 35 HT_.out ?_
      refine pureA 5 36 HT_.out ?_
      refine pureA 6 37 HT_.out ?_
      refine pureA 7 38 HT_.out ?_
      refine pureA 8 39 HT_.out ?_
      refine pureA 9 40 HT_.out ?_
      refine pureA 10 41 HT_.out ?_
      refine pureA 11 42 HT_.out ?_
      refine pureA 12 43 HT_.out ?_
      refine pureA 13 44 HT_.out ?_
      refine pureN 14 45 HT_.out ?_
      refine pureN 15 46 HT_.out ?_
      refine pureA 16 47 HT_.out ?_
      refine pureA 17 48 HT_.out ?_
      refine pureN 18 49 HT_.out ?_
      refine pureN 19 50 HT_.out ?_
      refine pureA 20 51 HT_.out ?_
      refine pureA 21 52 HT_.out ?_
      refine pureA 22 53 HT_.out ?_
      refine take_ (i := 23) (N := some 54) (v := ?_) (a' := ?_) #[true, true, true, true, true, true, true, true, true, true, true, true, true, true, true, true, true, true, true, true, true, true, true, true, false, false, false, false, false, false, false, false, false] rfl rfl (take_ofW HT_.out HW_.out (by kernel_rfl)) (fun _ _ _ h => h) (Or.inl ⟨by rfl, ?_⟩) hHeld ?_ ?_
      rotate_left
      · rintro w' ⟨s0, s1⟩
        go_simp
        with_reducible rfl
      rotate_left
      · simp only [Act.put, List.setIfInBounds_toArray, List.set_cons_zero, List.set_cons_succ, i64_w, i32_w]
        rfl
      refine take_ (i := 25) (N := some 56) (v := ?_) (a' := ?_) #[true, true, true, true, true, true, true, true, true, true, true, true, true, true, true, true, true, true, true, true, true, true, true, true, false, true, false, false, false, false, false, false, false] rfl rfl (take_ofW HT_.out HW_.out (by kernel_rfl)) (fun _ _ _ h => h) (Or.inl ⟨by rfl, ?_⟩) hHeld ?_ ?_
      rotate_left
      · rintro w' ⟨s0, s1⟩
        go_simp
        with_reducible rfl
      rotate_left
      · simp only [Act.put, List.setIfInBounds_toArray, List.set_cons_zero, List.set_cons_succ, i64_w, i32_w]
        rfl
      refine one_ (i := 24) (N := some 55) #[true, true, true, true, true, true, true, true, true, true, true, true, true, true, true, true, true, true, true, true, true, true, true, true, true, true, false, false, false, false, false, false, false] rfl rfl (one_of HT_.out (by kernel_rfl)) (by decide) (fun K hK => ?_)
      refine goes_ Try.func33 (by kernel_rfl) rfl #[.agg #[.slice Ao26 t612.length co26]] (by rfl) rfl rfl (by (try simp only [List.map_toArray, List.map_cons, List.map_nil]); first | done | rfl | (simp only [List.length_drop, List.length_take]; rfl)) ?_
      with_reducible refine (nat_Nat_Bits.calls _ _ t612 t637 _ ?side1 ?side2 A66.out).mono ?_
      (case side1 => exact (Kd.R_reads' HO614.out).2.2)
      (case side2 => exact (Kd.R_reads' HO614.out).2.1)
      rintro e w73 ⟨rfl, hb⟩
      refine ⟨_, rfl, ?_⟩
      replace HO611 := Aside0.mk (Kd.V_below HO611.out hb)
      replace HO614 := Aside0.mk (Kd.R_below HO614.out hb)
      replace HO617 := Aside0.mk (Kd.V_below HO617.out hb)
      replace HO620 := Aside0.mk (Kd.R_below HO620.out hb)
      replace HO623 := Aside0.mk (Kd.V_below HO623.out hb)
      replace HO626 := Aside0.mk (Kd.R_below HO626.out hb)
      replace BK627 := Aside0.mk (blk_below (g := gb627) (o := .cells #[.slice Ao26 t612.length co26] 25 (0, 0)) BK627.out hb)
      replace BK628 := Aside0.mk (blk_below (g := gb628) (o := .cells #[.slice Ao30 t618.length co30] 25 (0, 0)) BK628.out hb)
      replace BK629 := Aside0.mk (blk_below (g := gb629) (o := .cells #[.slice Ao33 t624.length co33] 25 (0, 0)) BK629.out hb)
      replace HB := Aside0.mk (below_step (by repeat (first | (with_reducible first | exact HB.out | apply below_alloc | apply pw_below_drewN | apply below_drew1 | refine below_set ?_ GE627.out | refine below_set ?_ GE628.out | refine below_set ?_ GE629.out) | exact HB.out)) hb)
      (try clear hb)
      (try clear hb2)
      (try clear hk)
      (try clear hi)
      refine hK.out _ _ ⟨(blk_cell BK627.out 0).trans rfl, (blk_cell BK628.out 0).trans rfl⟩ (fun hHeld => ?_)
      clear hK K
      refine norm_ (a' := ?_) ?_ ?_
      rotate_left
      · show Act.put _ (some 55) _ = _
        simp only [Act.put, List.setIfInBounds_toArray, List.set_cons_zero, List.set_cons_succ, i64_w, i32_w]
        rfl
      refine one_ (i := 26) (N := some 57) #[true, true, true, true, true, true, true, true, true, true, true, true, true, true, true, true, true, true, true, true, true, true, true, true, true, true, true, false, false, false, false, false, false] rfl rfl (one_of HT_.out (by kernel_rfl)) (by decide) (fun K hK => ?_)
      refine goes_ Try.func33 (by kernel_rfl) rfl #[.agg #[.slice Ao30 t618.length co30]] (by rfl) rfl rfl (by (try simp only [List.map_toArray, List.map_cons, List.map_nil]); first | done | rfl | (simp only [List.length_drop, List.length_take]; rfl)) ?_
      with_reducible refine (nat_Nat_Bits.calls _ _ t618 t638 _ ?side1 ?side2 A67.out).mono ?_
      (case side1 => exact (Kd.R_reads' HO620.out).2.2)
      (case side2 => exact (Kd.R_reads' HO620.out).2.1)
      rintro e w74 ⟨rfl, hb⟩
      refine ⟨_, rfl, ?_⟩
      replace HO611 := Aside0.mk (Kd.V_below HO611.out hb)
      replace HO614 := Aside0.mk (Kd.R_below HO614.out hb)
      replace HO617 := Aside0.mk (Kd.V_below HO617.out hb)
      replace HO620 := Aside0.mk (Kd.R_below HO620.out hb)
      replace HO623 := Aside0.mk (Kd.V_below HO623.out hb)
      replace HO626 := Aside0.mk (Kd.R_below HO626.out hb)
      replace BK627 := Aside0.mk (blk_below (g := gb627) (o := .cells #[.slice Ao26 t612.length co26] 25 (0, 0)) BK627.out hb)
      replace BK628 := Aside0.mk (blk_below (g := gb628) (o := .cells #[.slice Ao30 t618.length co30] 25 (0, 0)) BK628.out hb)
      replace BK629 := Aside0.mk (blk_below (g := gb629) (o := .cells #[.slice Ao33 t624.length co33] 25 (0, 0)) BK629.out hb)
      replace HB := Aside0.mk (below_step (by repeat (first | (with_reducible first | exact HB.out | apply below_alloc | apply pw_below_drewN | apply below_drew1 | refine below_set ?_ GE627.out | refine below_set ?_ GE628.out | refine below_set ?_ GE629.out) | exact HB.out)) hb)
      (try clear hb)
      (try clear hb2)
      (try clear hk)
      (try clear hi)
      refine hK.out _ _ ⟨(blk_cell BK627.out 0).trans rfl, (blk_cell BK628.out 0).trans rfl⟩ (fun hHeld => ?_)
      clear hK K
      refine norm_ (a' := ?_) ?_ ?_
      rotate_left
      · show Act.put _ (some 57) _ = _
        simp only [Act.put, List.setIfInBounds_toArray, List.set_cons_zero, List.set_cons_succ, i64_w, i32_w]
        rfl
      refine pureA 27 58 HT_.out ?_
      refine pureA 28 59 HT_.out ?_
      refine pureN 29 60 HT_.out ?_
      refine pureN 30 61 HT_.out ?_
      refine pureA 31 62 HT_.out ?_
      refine pureA 32 63 HT_.out ?_
      refine done_ (done_of HT_.out (by kernel_rfl)) ?_
      try go_wp2
      go_meet
      case rel => exact ⟨_, (false), rfl, H', ⟨by first | omega | exact Nat.le_refl _⟩, ⟨HO614.out⟩, ⟨HO620.out⟩, ⟨HO626.out⟩, ⟨BK627.out⟩, ⟨BK628.out⟩, ⟨BK629.out⟩, ⟨by repeat (first | (with_reducible first | exact HB.out | apply below_alloc | apply pw_below_drewN | apply below_drew1 | refine below_set ?_ GE627.out | refine below_set ?_ GE628.out | refine below_set ?_ GE629.out) | exact HB.out)⟩⟩
    rw [if_pos c44] at H
    have c44b0 : decide (0 ≤ t630) = true := decide_eq_true c44
    clear c44
    by_cases c45 : t631 ≥ 0
    rotate_left
    · rw [if_neg c45] at H
      have c45b0 : decide (0 ≤ t631) = false := decide_eq_false c45
      clear c45
      replace H := Option.bind_eq_some_iff.mp H
      obtain ⟨t635, A570, H⟩ := H
      have A57 := Aside0.mk A570
      clear A570
      replace H := Option.bind_eq_some_iff.mp H
      obtain ⟨t636, A580, H⟩ := H
      have A58 := Aside0.mk A580
      clear A580
      by_cases c59 : t635 > t636
      · rw [if_pos c59] at H
        have c59b0 : decide (t636 < t635) = true := decide_eq_true c59
        clear c59
        have H' := Aside0.mk H
        clear H
        try go_wp2
        replace HO611 := Aside0.mk (Kd.V_drew HO611.out)
        replace HO614 := Aside0.mk (Kd.R_drew HO614.out)
        replace HO617 := Aside0.mk (Kd.V_drew HO617.out)
        replace HO620 := Aside0.mk (Kd.R_drew HO620.out)
        replace HO623 := Aside0.mk (Kd.V_drew HO623.out)
        replace HO626 := Aside0.mk (Kd.R_drew HO626.out)
        replace BK627 := Aside0.mk (blk_drew BK627.out)
        replace BK628 := Aside0.mk (blk_drew BK628.out)
        replace BK629 := Aside0.mk (blk_drew BK629.out)
        replace HB := Aside0.mk (below_drew1 HB.out)
        refine start_ (n := 33) (S := fun w' => w'.cell? ⟨gb627, 0, none⟩ = some (.slice Ao26 t612.length co26) ∧ w'.cell? ⟨gb628, 0, none⟩ = some (.slice Ao30 t618.length co30)) (ds := []) #[false, false, false, false, false, false, false, false, false, false, false, false, false, false, false, false, false, false, false, false, false, false, false, false, false, false, false, false, false, false, false, false, false] (by kernel_rfl) rfl rfl ⟨(blk_cell BK627.out 0).trans rfl, (blk_cell BK628.out 0).trans rfl⟩ (fun hHeld => ?_); refine with_tabW numerarylaw02_NatOrder.tab3 numerarylaw02_NatOrder.bits3 (fun HT_ HW_ => ?_)
        generalize w39.drew = w60 at HO611 HO614 HO617 HO620 HO623 HO626 BK627 BK628 BK629 HB hHeld ⊢
        refine pureA 0 31 HT_.out ?_
        refine pureA 1 32 HT_.out ?_
        refine pureA 2 33 HT_.out ?_
        refine pureA 3 34 HT_.out ?_
        refine pureA 4 35 HT_.out ?_
        refine pureA 5 36 HT_.out ?_
        refine pureA 6 37 HT_.out ?_
        refine pureA 7 38 HT_.out ?_
        refine pureA 8 39 HT_.out ?_
        refine pureA 9 40 HT_.out ?_
        refine pureA 10 41 HT_.out ?_
        refine pureA 11 42 HT_.out ?_
        refine pureA 12 43 HT_.out ?_
        refine pureA 13 44 HT_.out ?_
        refine pureA 14 45 HT_.out ?_
        refine pureA 15 46 HT_.out ?_
        refine pureA 16 47 HT_.out ?_
        refine pureA 17 48 HT_.out ?_
        refine pureN 18 49 HT_.out ?_
        refine pureN 19 50 HT_.out ?_
        refine pureA 20 51 HT_.out ?_
        refine pureA 21 52 HT_.out ?_
        refine pureA 22 53 HT_.out ?_
        refine take_ (i := 23) (N := some 54) (v := ?_) (a' := ?_) #[true, true, true, true, true, true, true, true, true, true, true, true, true, true, true, true, true, true, true, true, true, true, true, true, false, false, false, false, false, false, false, false, false] rfl rfl (take_ofW HT_.out HW_.out (by kernel_rfl)) (fun _ _ _ h => h) (Or.inl ⟨by rfl, ?_⟩) hHeld ?_ ?_
        rotate_left
        · rintro w' ⟨s0, s1⟩
          go_simp
          with_reducible rfl
        rotate_left
        · simp only [Act.put, List.setIfInBounds_toArray, List.set_cons_zero, List.set_cons_succ, i64_w, i32_w]
          rfl
        refine take_ (i := 25) (N := some 56) (v := ?_) (a' := ?_) #[true, true, true, true, true, true, true, true, true, true, true, true, true, true, true, true, true, true, true, true, true, true, true, true, false, true, false, false, false, false, false, false, false] rfl rfl (take_ofW HT_.out HW_.out (by kernel_rfl)) (fun _ _ _ h => h) (Or.inl ⟨by rfl, ?_⟩) hHeld ?_ ?_
        rotate_left
        · rintro w' ⟨s0, s1⟩
          go_simp
          with_reducible rfl
        rotate_left
        · simp only [Act.put, List.setIfInBounds_toArray, List.set_cons_zero, List.set_cons_succ, i64_w, i32_w]
          rfl
        refine one_ (i := 24) (N := some 55) #[true, true, true, true, true, true, true, true, true, true, true, true, true, true, true, true, true, true, true, true, true, true, true, true, true, true, false, false, false, false, false, false, false] rfl rfl (one_of HT_.out (by kernel_rfl)) (by decide) (fun K hK => ?_)
        refine goes_ Try.func33 (by kernel_rfl) rfl #[.agg #[.slice Ao26 t612.length co26]] (by rfl) rfl rfl (by (try simp only [List.map_toArray, List.map_cons, List.map_nil]); first | done | rfl | (simp only [List.length_drop, List.length_take]; rfl)) ?_
        with_reducible refine (nat_Nat_Bits.calls _ _ t612 t635 _ ?side1 ?side2 A57.out).mono ?_
        (case side1 => exact (Kd.R_reads' HO614.out).2.2)
        (case side2 => exact (Kd.R_reads' HO614.out).2.1)
        rintro e w61 ⟨rfl, hb⟩
        refine ⟨_, rfl, ?_⟩
        replace HO611 := Aside0.mk (Kd.V_below HO611.out hb)
        replace HO614 := Aside0.mk (Kd.R_below HO614.out hb)
        replace HO617 := Aside0.mk (Kd.V_below HO617.out hb)
        replace HO620 := Aside0.mk (Kd.R_below HO620.out hb)
        replace HO623 := Aside0.mk (Kd.V_below HO623.out hb)
        replace HO626 := Aside0.mk (Kd.R_below HO626.out hb)
        replace BK627 := Aside0.mk (blk_below (g := gb627) (o := .cells #[.slice Ao26 t612.length co26] 25 (0, 0)) BK627.out hb)
        replace BK628 := Aside0.mk (blk_below (g := gb628) (o := .cells #[.slice Ao30 t618.length co30] 25 (0, 0)) BK628.out hb)
        replace BK629 := Aside0.mk (blk_below (g := gb629) (o := .cells #[.slice Ao33 t624.length co33] 25 (0, 0)) BK629.out hb)
        replace HB := Aside0.mk (below_step (by repeat (first | (with_reducible first | exact HB.out | apply below_alloc | apply pw_below_drewN | apply below_drew1 | refine below_set ?_ GE627.out | refine below_set ?_ GE628.out | refine below_set ?_ GE629.out) | exact HB.out)) hb)
        (try clear hb)
        (try clear hb2)
        (try clear hk)
        (try clear hi)
        refine hK.out _ _ ⟨(blk_cell BK627.out 0).trans rfl, (blk_cell BK628.out 0).trans rfl⟩ (fun hHeld => ?_)
        clear hK K
        refine norm_ (a' := ?_) ?_ ?_
        rotate_left
        · show Act.put _ (some 55) _ = _
          simp only [Act.put, List.setIfInBounds_toArray, List.set_cons_zero, List.set_cons_succ, i64_w, i32_w]
          rfl
        refine one_ (i := 26) (N := some 57) #[true, true, true, true, true, true, true, true, true, true, true, true, true, true, true, true, true, true, true, true, true, true, true, true, true, true, true, false, false, false, false, false, false] rfl rfl (one_of HT_.out (by kernel_rfl)) (by decide) (fun K hK => ?_)
        refine goes_ Try.func33 (by kernel_rfl) rfl #[.agg #[.slice Ao30 t618.length co30]] (by rfl) rfl rfl (by (try simp only [List.map_toArray, List.map_cons, List.map_nil]); first | done | rfl | (simp only [List.length_drop, List.length_take]; rfl)) ?_
        with_reducible refine (nat_Nat_Bits.calls _ _ t618 t636 _ ?side1 ?side2 A58.out).mono ?_
        (case side1 => exact (Kd.R_reads' HO620.out).2.2)
        (case side2 => exact (Kd.R_reads' HO620.out).2.1)
        rintro e w62 ⟨rfl, hb⟩
        refine ⟨_, rfl, ?_⟩
        replace HO611 := Aside0.mk (Kd.V_below HO611.out hb)
        replace HO614 := Aside0.mk (Kd.R_below HO614.out hb)
        replace HO617 := Aside0.mk (Kd.V_below HO617.out hb)
        replace HO620 := Aside0.mk (Kd.R_below HO620.out hb)
        replace HO623 := Aside0.mk (Kd.V_below HO623.out hb)
        replace HO626 := Aside0.mk (Kd.R_below HO626.out hb)
        replace BK627 := Aside0.mk (blk_below (g := gb627) (o := .cells #[.slice Ao26 t612.length co26] 25 (0, 0)) BK627.out hb)
        replace BK628 := Aside0.mk (blk_below (g := gb628) (o := .cells #[.slice Ao30 t618.length co30] 25 (0, 0)) BK628.out hb)
        replace BK629 := Aside0.mk (blk_below (g := gb629) (o := .cells #[.slice Ao33 t624.length co33] 25 (0, 0)) BK629.out hb)
        replace HB := Aside0.mk (below_step (by repeat (first | (with_reducible first | exact HB.out | apply below_alloc | apply pw_below_drewN | apply below_drew1 | refine below_set ?_ GE627.out | refine below_set ?_ GE628.out | refine below_set ?_ GE629.out) | exact HB.out)) hb)
        (try clear hb)
        (try clear hb2)
        (try clear hk)
        (try clear hi)
        refine hK.out _ _ ⟨(blk_cell BK627.out 0).trans rfl, (blk_cell BK628.out 0).trans rfl⟩ (fun hHeld => ?_)
        clear hK K
        refine norm_ (a' := ?_) ?_ ?_
        rotate_left
        · show Act.put _ (some 57) _ = _
          simp only [Act.put, List.setIfInBounds_toArray, List.set_cons_zero, List.set_cons_succ, i64_w, i32_w]
          rfl
        refine pureA 27 58 HT_.out ?_
        refine pureA 28 59 HT_.out ?_
        refine pureA 29 60 HT_.out ?_
        refine pureA 30 61 HT_.out ?_
        refine pureA 31 62 HT_.out ?_
        refine pureA 32 63 HT_.out ?_
        refine done_ (done_of HT_.out (by kernel_rfl)) ?_
        try go_wp2
        go_meet
        case rel => exact ⟨_, ((t630 != 1)), rfl, H', ⟨by first | omega | exact Nat.le_refl _⟩, ⟨HO614.out⟩, ⟨HO620.out⟩, ⟨HO626.out⟩, ⟨BK627.out⟩, ⟨BK628.out⟩, ⟨BK629.out⟩, ⟨by repeat (first | (with_reducible first | exact HB.out | apply below_alloc | apply pw_below_drewN | apply below_drew1 | refine below_set ?_ GE627.out | refine below_set ?_ GE628.out | refine below_set ?_ GE629.out) | exact HB.out)⟩⟩
      rw [if_neg c59] at H
      have c59b0 : decide (t636 < t635) = false := decide_eq_false c59
      clear c59
      have H' := Aside0.mk H
      clear H
      try go_wp2
      replace HO611 := Aside0.mk (Kd.V_drew HO611.out)
      replace HO614 := Aside0.mk (Kd.R_drew HO614.out)
      replace HO617 := Aside0.mk (Kd.V_drew HO617.out)
      replace HO620 := Aside0.mk (Kd.R_drew HO620.out)
      replace HO623 := Aside0.mk (Kd.V_drew HO623.out)
      replace HO626 := Aside0.mk (Kd.R_drew HO626.out)
      replace BK627 := Aside0.mk (blk_drew BK627.out)
      replace BK628 := Aside0.mk (blk_drew BK628.out)
      replace BK629 := Aside0.mk (blk_drew BK629.out)
      replace HB := Aside0.mk (below_drew1 HB.out)
      refine start_ (n := 33) (S := fun w' => w'.cell? ⟨gb627, 0, none⟩ = some (.slice Ao26 t612.length co26) ∧ w'.cell? ⟨gb628, 0, none⟩ = some (.slice Ao30 t618.length co30)) (ds := []) #[false, false, false, false, false, false, false, false, false, false, false, false, false, false, false, false, false, false, false, false, false, false, false, false, false, false, false, false, false, false, false, false, false] (by kernel_rfl) rfl rfl ⟨(blk_cell BK627.out 0).trans rfl, (blk_cell BK628.out 0).trans rfl⟩ (fun hHeld => ?_); refine with_tabW numerarylaw02_NatOrder.tab3 numerarylaw02_NatOrder.bits3 (fun HT_ HW_ => ?_)
      generalize w39.drew = w63 at HO611 HO614 HO617 HO620 HO623 HO626 BK627 BK628 BK629 HB hHeld ⊢
      refine pureA 0 31 HT_.out ?_
      refine pureA 1 32 HT_.out ?_
      refine pureA 2 33 HT_.out ?_
      refine pureA 3 34 HT_.out ?_
      refine pureA 4 35 HT_.out ?_
      refine pureA 5 36 HT_.out ?_
      refine pureA 6 37 HT_.out ?_
      refine pureA 7 38 HT_.out ?_
      refine pureA 8 39 HT_.out ?_
      refine pureA 9 40 HT_.out ?_
      refine pureA 10 41 HT_.out ?_
      refine pureA 11 42 HT_.out ?_
      refine pureA 12 43 HT_.out ?_
      refine pureA 13 44 HT_.out ?_
      refine pureA 14 45 HT_.out ?_
      refine pureA 15 46 HT_.out ?_
      refine pureA 16 47 HT_.out ?_
      refine pureA 17 48 HT_.out ?_
      refine pureN 18 49 HT_.out ?_
      refine pureN 19 50 HT_.out ?_
      refine pureA 20 51 HT_.out ?_
      refine pureA 21 52 HT_.out ?_
      refine pureA 22 53 HT_.out ?_
      refine take_ (i := 23) (N := some 54) (v := ?_) (a' := ?_) #[true, true, true, true, true, true, true, true, true, true, true, true, true, true, true, true, true, true, true, true, true, true, true, true, false, false, false, false, false, false, false, false, false] rfl rfl (take_ofW HT_.out HW_.out (by kernel_rfl)) (fun _ _ _ h => h) (Or.inl ⟨by rfl, ?_⟩) hHeld ?_ ?_
      rotate_left
      · rintro w' ⟨s0, s1⟩
        go_simp
        with_reducible rfl
      rotate_left
      · simp only [Act.put, List.setIfInBounds_toArray, List.set_cons_zero, List.set_cons_succ, i64_w, i32_w]
        rfl
      refine take_ (i := 25) (N := some 56) (v := ?_) (a' := ?_) #[true, true, true, true, true, true, true, true, true, true, true, true, true, true, true, true, true, true, true, true, true, true, true, true, false, true, false, false, false, false, false, false, false] rfl rfl (take_ofW HT_.out HW_.out (by kernel_rfl)) (fun _ _ _ h => h) (Or.inl ⟨by rfl, ?_⟩) hHeld ?_ ?_
      rotate_left
      · rintro w' ⟨s0, s1⟩
        go_simp
        with_reducible rfl
      rotate_left
      · simp only [Act.put, List.setIfInBounds_toArray, List.set_cons_zero, List.set_cons_succ, i64_w, i32_w]
        rfl
      refine one_ (i := 24) (N := some 55) #[true, true, true, true, true, true, true, true, true, true, true, true, true, true, true, true, true, true, true, true, true, true, true, true, true, true, false, false, false, false, false, false, false] rfl rfl (one_of HT_.out (by kernel_rfl)) (by decide) (fun K hK => ?_)
      refine goes_ Try.func33 (by kernel_rfl) rfl #[.agg #[.slice Ao26 t612.length co26]] (by rfl) rfl rfl (by (try simp only [List.map_toArray, List.map_cons, List.map_nil]); first | done | rfl | (simp only [List.length_drop, List.length_take]; rfl)) ?_
      with_reducible refine (nat_Nat_Bits.calls _ _ t612 t635 _ ?side1 ?side2 A57.out).mono ?_
      (case side1 => exact (Kd.R_reads' HO614.out).2.2)
      (case side2 => exact (Kd.R_reads' HO614.out).2.1)
      rintro e w64 ⟨rfl, hb⟩
      refine ⟨_, rfl, ?_⟩
      replace HO611 := Aside0.mk (Kd.V_below HO611.out hb)
      replace HO614 := Aside0.mk (Kd.R_below HO614.out hb)
      replace HO617 := Aside0.mk (Kd.V_below HO617.out hb)
      replace HO620 := Aside0.mk (Kd.R_below HO620.out hb)
      replace HO623 := Aside0.mk (Kd.V_below HO623.out hb)
      replace HO626 := Aside0.mk (Kd.R_below HO626.out hb)
      replace BK627 := Aside0.mk (blk_below (g := gb627) (o := .cells #[.slice Ao26 t612.length co26] 25 (0, 0)) BK627.out hb)
      replace BK628 := Aside0.mk (blk_below (g := gb628) (o := .cells #[.slice Ao30 t618.length co30] 25 (0, 0)) BK628.out hb)
      replace BK629 := Aside0.mk (blk_below (g := gb629) (o := .cells #[.slice Ao33 t624.length co33] 25 (0, 0)) BK629.out hb)
      replace HB := Aside0.mk (below_step (by repeat (first | (with_reducible first | exact HB.out | apply below_alloc | apply pw_below_drewN | apply below_drew1 | refine below_set ?_ GE627.out | refine below_set ?_ GE628.out | refine below_set ?_ GE629.out) | exact HB.out)) hb)
      (try clear hb)
      (try clear hb2)
      (try clear hk)
      (try clear hi)
      refine hK.out _ _ ⟨(blk_cell BK627.out 0).trans rfl, (blk_cell BK628.out 0).trans rfl⟩ (fun hHeld => ?_)
      clear hK K
      refine norm_ (a' := ?_) ?_ ?_
      rotate_left
      · show Act.put _ (some 55) _ = _
        simp only [Act.put, List.setIfInBounds_toArray, List.set_cons_zero, List.set_cons_succ, i64_w, i32_w]
        rfl
      refine one_ (i := 26) (N := some 57) #[true, true, true, true, true, true, true, true, true, true, true, true, true, true, true, true, true, true, true, true, true, true, true, true, true, true, true, false, false, false, false, false, false] rfl rfl (one_of HT_.out (by kernel_rfl)) (by decide) (fun K hK => ?_)
      refine goes_ Try.func33 (by kernel_rfl) rfl #[.agg #[.slice Ao30 t618.length co30]] (by rfl) rfl rfl (by (try simp only [List.map_toArray, List.map_cons, List.map_nil]); first | done | rfl | (simp only [List.length_drop, List.length_take]; rfl)) ?_
      with_reducible refine (nat_Nat_Bits.calls _ _ t618 t636 _ ?side1 ?side2 A58.out).mono ?_
      (case side1 => exact (Kd.R_reads' HO620.out).2.2)
      (case side2 => exact (Kd.R_reads' HO620.out).2.1)
      rintro e w65 ⟨rfl, hb⟩
      refine ⟨_, rfl, ?_⟩
      replace HO611 := Aside0.mk (Kd.V_below HO611.out hb)
      replace HO614 := Aside0.mk (Kd.R_below HO614.out hb)
      replace HO617 := Aside0.mk (Kd.V_below HO617.out hb)
      replace HO620 := Aside0.mk (Kd.R_below HO620.out hb)
      replace HO623 := Aside0.mk (Kd.V_below HO623.out hb)
      replace HO626 := Aside0.mk (Kd.R_below HO626.out hb)
      replace BK627 := Aside0.mk (blk_below (g := gb627) (o := .cells #[.slice Ao26 t612.length co26] 25 (0, 0)) BK627.out hb)
      replace BK628 := Aside0.mk (blk_below (g := gb628) (o := .cells #[.slice Ao30 t618.length co30] 25 (0, 0)) BK628.out hb)
      replace BK629 := Aside0.mk (blk_below (g := gb629) (o := .cells #[.slice Ao33 t624.length co33] 25 (0, 0)) BK629.out hb)
      replace HB := Aside0.mk (below_step (by repeat (first | (with_reducible first | exact HB.out | apply below_alloc | apply pw_below_drewN | apply below_drew1 | refine below_set ?_ GE627.out | refine below_set ?_ GE628.out | refine below_set ?_ GE629.out) | exact HB.out)) hb)
      (try clear hb)
      (try clear hb2)
      (try clear hk)
      (try clear hi)
      refine hK.out _ _ ⟨(blk_cell BK627.out 0).trans rfl, (blk_cell BK628.out 0).trans rfl⟩ (fun hHeld => ?_)
      clear hK K
      refine norm_ (a' := ?_) ?_ ?_
      rotate_left
      · show Act.put _ (some 57) _ = _
        simp only [Act.put, List.setIfInBounds_toArray, List.set_cons_zero, List.set_cons_succ, i64_w, i32_w]
        rfl
      refine pureA 27 58 HT_.out ?_
      refine pureA 28 59 HT_.out ?_
      refine pureN 29 60 HT_.out ?_
      refine pureN 30 61 HT_.out ?_
      refine pureA 31 62 HT_.out ?_
      refine pureA 32 63 HT_.out ?_
      refine done_ (done_of HT_.out (by kernel_rfl)) ?_
      try go_wp2
      go_meet
      case rel => exact ⟨_, (false), rfl, H', ⟨by first | omega | exact Nat.le_refl _⟩, ⟨HO614.out⟩, ⟨HO620.out⟩, ⟨HO626.out⟩, ⟨BK627.out⟩, ⟨BK628.out⟩, ⟨BK629.out⟩, ⟨by repeat (first | (with_reducible first | exact HB.out | apply below_alloc | apply pw_below_drewN | apply below_drew1 | refine below_set ?_ GE627.out | refine below_set ?_ GE628.out | refine below_set ?_ GE629.out) | exact HB.out)⟩⟩
    rw [if_pos c45] at H
    have c45b0 : decide (0 ≤ t631) = true := decide_eq_true c45
    clear c45
    by_cases c46 : t632 < 0
    · rw [if_pos c46] at H
      have c46b0 : decide (t632 < 0) = true := decide_eq_true c46
      clear c46
      have H' := Aside0.mk H
      clear H
      try go_wp2
      replace HO611 := Aside0.mk (Kd.V_drew HO611.out)
      replace HO614 := Aside0.mk (Kd.R_drew HO614.out)
      replace HO617 := Aside0.mk (Kd.V_drew HO617.out)
      replace HO620 := Aside0.mk (Kd.R_drew HO620.out)
      replace HO623 := Aside0.mk (Kd.V_drew HO623.out)
      replace HO626 := Aside0.mk (Kd.R_drew HO626.out)
      replace BK627 := Aside0.mk (blk_drew BK627.out)
      replace BK628 := Aside0.mk (blk_drew BK628.out)
      replace BK629 := Aside0.mk (blk_drew BK629.out)
      replace HB := Aside0.mk (below_drew1 HB.out)
      refine start_ (n := 33) (S := fun w' => True) (ds := []) #[false, false, false, false, false, false, false, false, false, false, false, false, false, false, false, false, false, false, false, false, false, false, false, false, false, false, false, false, false, false, false, false, false] (by kernel_rfl) rfl rfl trivial (fun hHeld => ?_); refine with_tabW numerarylaw02_NatOrder.tab3 numerarylaw02_NatOrder.bits3 (fun HT_ HW_ => ?_)
      generalize w39.drew = w47 at HO611 HO614 HO617 HO620 HO623 HO626 BK627 BK628 BK629 HB hHeld ⊢
      refine pureA 0 31 HT_.out ?_
      refine pureA 1 32 HT_.out ?_
      refine pureA 2 33 HT_.out ?_
      refine pureA 3 34 HT_.out ?_
      refine pureA 4 35 HT_.out ?_
      refine pureA 5 36 HT_.out ?_
      refine pureA 6 37 HT_.out ?_
      refine pureA 7 38 HT_.out ?_
      refine pureA 8 39 HT_.out ?_
      refine pureA 9 40 HT_.out ?_
      refine pureA 10 41 HT_.out ?_
      refine pureA 11 42 HT_.out ?_
      refine pureA 12 43 HT_.out ?_
      refine pureA 13 44 HT_.out ?_
      refine pureA 14 45 HT_.out ?_
      refine pureA 15 46 HT_.out ?_
      refine pureA 16 47 HT_.out ?_
      refine pureA 17 48 HT_.out ?_
      refine pureA 18 49 HT_.out ?_
      refine pureA 19 50 HT_.out ?_
      refine pureA 20 51 HT_.out ?_
      refine pureA 21 52 HT_.out ?_
      refine pureA 22 53 HT_.out ?_
      refine pureN 23 54 HT_.out ?_
      refine pureN 24 55 HT_.out ?_
      refine pureN 25 56 HT_.out ?_
      refine pureN 26 57 HT_.out ?_
      refine pureN 27 58 HT_.out ?_
      refine pureN 28 59 HT_.out ?_
      refine pureN 29 60 HT_.out ?_
      refine pureN 30 61 HT_.out ?_
      refine pureN 31 62 HT_.out ?_
      refine pureA 32 63 HT_.out ?_
      refine done_ (done_of HT_.out (by kernel_rfl)) ?_
      try go_wp2
      go_meet
      case rel => exact ⟨_, (true), rfl, H', ⟨by first | omega | exact Nat.le_refl _⟩, ⟨HO614.out⟩, ⟨HO620.out⟩, ⟨HO626.out⟩, ⟨BK627.out⟩, ⟨BK628.out⟩, ⟨BK629.out⟩, ⟨by repeat (first | (with_reducible first | exact HB.out | apply below_alloc | apply pw_below_drewN | apply below_drew1 | refine below_set ?_ GE627.out | refine below_set ?_ GE628.out | refine below_set ?_ GE629.out) | exact HB.out)⟩⟩
    rw [if_neg c46] at H
    have c46b0 : decide (t632 < 0) = false := decide_eq_false c46
    clear c46
    replace H := Option.bind_eq_some_iff.mp H
    obtain ⟨t633, A480, H⟩ := H
    have A48 := Aside0.mk A480
    clear A480
    replace H := Option.bind_eq_some_iff.mp H
    obtain ⟨t634, A490, H⟩ := H
    have A49 := Aside0.mk A490
    clear A490
    by_cases c50 : t633 > t634
    · rw [if_pos c50] at H
      have c50b0 : decide (t634 < t633) = true := decide_eq_true c50
      clear c50
      have H' := Aside0.mk H
      clear H
      try go_wp2
      replace HO611 := Aside0.mk (Kd.V_drew HO611.out)
      replace HO614 := Aside0.mk (Kd.R_drew HO614.out)
      replace HO617 := Aside0.mk (Kd.V_drew HO617.out)
      replace HO620 := Aside0.mk (Kd.R_drew HO620.out)
      replace HO623 := Aside0.mk (Kd.V_drew HO623.out)
      replace HO626 := Aside0.mk (Kd.R_drew HO626.out)
      replace BK627 := Aside0.mk (blk_drew BK627.out)
      replace BK628 := Aside0.mk (blk_drew BK628.out)
      replace BK629 := Aside0.mk (blk_drew BK629.out)
      replace HB := Aside0.mk (below_drew1 HB.out)
      refine start_ (n := 33) (S := fun w' => w'.cell? ⟨gb627, 0, none⟩ = some (.slice Ao26 t612.length co26) ∧ w'.cell? ⟨gb628, 0, none⟩ = some (.slice Ao30 t618.length co30)) (ds := []) #[false, false, false, false, false, false, false, false, false, false, false, false, false, false, false, false, false, false, false, false, false, false, false, false, false, false, false, false, false, false, false, false, false] (by kernel_rfl) rfl rfl ⟨(blk_cell BK627.out 0).trans rfl, (blk_cell BK628.out 0).trans rfl⟩ (fun hHeld => ?_); refine with_tabW numerarylaw02_NatOrder.tab3 numerarylaw02_NatOrder.bits3 (fun HT_ HW_ => ?_)
      generalize w39.drew = w51 at HO611 HO614 HO617 HO620 HO623 HO626 BK627 BK628 BK629 HB hHeld ⊢
      refine pureA 0 31 HT_.out ?_
      refine pureA 1 32 HT_.out ?_
      refine pureA 2 33 HT_.out ?_
      refine pureA 3 34 HT_.out ?_
      refine pureA 4 35 HT_.out ?_
      refine pureA 5 36 HT_.out ?_
      refine pureA 6 37 HT_.out ?_
      refine pureA 7 38 HT_.out ?_
      refine pureA 8 39 HT_.out ?_
      refine pureA 9 40 HT_.out ?_
      refine pureA 10 41 HT_.out ?_
      refine pureA 11 42 HT_.out ?_
      refine pureA 12 43 HT_.out ?_
      refine pureA 13 44 HT_.out ?_
      refine pureA 14 45 HT_.out ?_
      refine pureA 15 46 HT_.out ?_
      refine pureA 16 47 HT_.out ?_
      refine pureA 17 48 HT_.out ?_
      refine pureA 18 49 HT_.out ?_
      refine pureA 19 50 HT_.out ?_
      refine pureA 20 51 HT_.out ?_
      refine pureA 21 52 HT_.out ?_
      refine pureA 22 53 HT_.out ?_
      refine take_ (i := 23) (N := some 54) (v := ?_) (a' := ?_) #[true, true, true, true, true, true, true, true, true, true, true, true, true, true, true, true, true, true, true, true, true, true, true, true, false, false, false, false, false, false, false, false, false] rfl rfl (take_ofW HT_.out HW_.out (by kernel_rfl)) (fun _ _ _ h => h) (Or.inl ⟨by rfl, ?_⟩) hHeld ?_ ?_
      rotate_left
      · rintro w' ⟨s0, s1⟩
        go_simp
        with_reducible rfl
      rotate_left
      · simp only [Act.put, List.setIfInBounds_toArray, List.set_cons_zero, List.set_cons_succ, i64_w, i32_w]
        rfl
      refine take_ (i := 25) (N := some 56) (v := ?_) (a' := ?_) #[true, true, true, true, true, true, true, true, true, true, true, true, true, true, true, true, true, true, true, true, true, true, true, true, false, true, false, false, false, false, false, false, false] rfl rfl (take_ofW HT_.out HW_.out (by kernel_rfl)) (fun _ _ _ h => h) (Or.inl ⟨by rfl, ?_⟩) hHeld ?_ ?_
      rotate_left
      · rintro w' ⟨s0, s1⟩
        go_simp
        with_reducible rfl
      rotate_left
      · simp only [Act.put, List.setIfInBounds_toArray, List.set_cons_zero, List.set_cons_succ, i64_w, i32_w]
        rfl
      refine one_ (i := 24) (N := some 55) #[true, true, true, true, true, true, true, true, true, true, true, true, true, true, true, true, true, true, true, true, true, true, true, true, true, true, false, false, false, false, false, false, false] rfl rfl (one_of HT_.out (by kernel_rfl)) (by decide) (fun K hK => ?_)
      refine goes_ Try.func33 (by kernel_rfl) rfl #[.agg #[.slice Ao26 t612.length co26]] (by rfl) rfl rfl (by (try simp only [List.map_toArray, List.map_cons, List.map_nil]); first | done | rfl | (simp only [List.length_drop, List.length_take]; rfl)) ?_
      with_reducible refine (nat_Nat_Bits.calls _ _ t612 t633 _ ?side1 ?side2 A48.out).mono ?_
      (case side1 => exact (Kd.R_reads' HO614.out).2.2)
      (case side2 => exact (Kd.R_reads' HO614.out).2.1)
      rintro e w52 ⟨rfl, hb⟩
      refine ⟨_, rfl, ?_⟩
      replace HO611 := Aside0.mk (Kd.V_below HO611.out hb)
      replace HO614 := Aside0.mk (Kd.R_below HO614.out hb)
      replace HO617 := Aside0.mk (Kd.V_below HO617.out hb)
      replace HO620 := Aside0.mk (Kd.R_below HO620.out hb)
      replace HO623 := Aside0.mk (Kd.V_below HO623.out hb)
      replace HO626 := Aside0.mk (Kd.R_below HO626.out hb)
      replace BK627 := Aside0.mk (blk_below (g := gb627) (o := .cells #[.slice Ao26 t612.length co26] 25 (0, 0)) BK627.out hb)
      replace BK628 := Aside0.mk (blk_below (g := gb628) (o := .cells #[.slice Ao30 t618.length co30] 25 (0, 0)) BK628.out hb)
      replace BK629 := Aside0.mk (blk_below (g := gb629) (o := .cells #[.slice Ao33 t624.length co33] 25 (0, 0)) BK629.out hb)
      replace HB := Aside0.mk (below_step (by repeat (first | (with_reducible first | exact HB.out | apply below_alloc | apply pw_below_drewN | apply below_drew1 | refine below_set ?_ GE627.out | refine below_set ?_ GE628.out | refine below_set ?_ GE629.out) | exact HB.out)) hb)
      (try clear hb)
      (try clear hb2)
      (try clear hk)
      (try clear hi)
      refine hK.out _ _ ⟨(blk_cell BK627.out 0).trans rfl, (blk_cell BK628.out 0).trans rfl⟩ (fun hHeld => ?_)
      clear hK K
      refine norm_ (a' := ?_) ?_ ?_
      rotate_left
      · show Act.put _ (some 55) _ = _
        simp only [Act.put, List.setIfInBounds_toArray, List.set_cons_zero, List.set_cons_succ, i64_w, i32_w]
        rfl
      refine one_ (i := 26) (N := some 57) #[true, true, true, true, true, true, true, true, true, true, true, true, true, true, true, true, true, true, true, true, true, true, true, true, true, true, true, false, false, false, false, false, false] rfl rfl (one_of HT_.out (by kernel_rfl)) (by decide) (fun K hK => ?_)
      refine goes_ Try.func33 (by kernel_rfl) rfl #[.agg #[.slice Ao30 t618.length co30]] (by rfl) rfl rfl (by (try simp only [List.map_toArray, List.map_cons, List.map_nil]); first | done | rfl | (simp only [List.length_drop, List.length_take]; rfl)) ?_
      with_reducible refine (nat_Nat_Bits.calls _ _ t618 t634 _ ?side1 ?side2 A49.out).mono ?_
      (case side1 => exact (Kd.R_reads' HO620.out).2.2)
      (case side2 => exact (Kd.R_reads' HO620.out).2.1)
      rintro e w53 ⟨rfl, hb⟩
      refine ⟨_, rfl, ?_⟩
      replace HO611 := Aside0.mk (Kd.V_below HO611.out hb)
      replace HO614 := Aside0.mk (Kd.R_below HO614.out hb)
      replace HO617 := Aside0.mk (Kd.V_below HO617.out hb)
      replace HO620 := Aside0.mk (Kd.R_below HO620.out hb)
      replace HO623 := Aside0.mk (Kd.V_below HO623.out hb)
      replace HO626 := Aside0.mk (Kd.R_below HO626.out hb)
      replace BK627 := Aside0.mk (blk_below (g := gb627) (o := .cells #[.slice Ao26 t612.length co26] 25 (0, 0)) BK627.out hb)
      replace BK628 := Aside0.mk (blk_below (g := gb628) (o := .cells #[.slice Ao30 t618.length co30] 25 (0, 0)) BK628.out hb)
      replace BK629 := Aside0.mk (blk_below (g := gb629) (o := .cells #[.slice Ao33 t624.length co33] 25 (0, 0)) BK629.out hb)
      replace HB := Aside0.mk (below_step (by repeat (first | (with_reducible first | exact HB.out | apply below_alloc | apply pw_below_drewN | apply below_drew1 | refine below_set ?_ GE627.out | refine below_set ?_ GE628.out | refine below_set ?_ GE629.out) | exact HB.out)) hb)
      (try clear hb)
      (try clear hb2)
      (try clear hk)
      (try clear hi)
      refine hK.out _ _ ⟨(blk_cell BK627.out 0).trans rfl, (blk_cell BK628.out 0).trans rfl⟩ (fun hHeld => ?_)
      clear hK K
      refine norm_ (a' := ?_) ?_ ?_
      rotate_left
      · show Act.put _ (some 57) _ = _
        simp only [Act.put, List.setIfInBounds_toArray, List.set_cons_zero, List.set_cons_succ, i64_w, i32_w]
        rfl
      refine pureA 27 58 HT_.out ?_
      refine pureA 28 59 HT_.out ?_
      refine pureA 29 60 HT_.out ?_
      refine pureA 30 61 HT_.out ?_
      refine pureA 31 62 HT_.out ?_
      refine pureA 32 63 HT_.out ?_
      refine done_ (done_of HT_.out (by kernel_rfl)) ?_
      try go_wp2
      go_meet
      case rel => exact ⟨_, ((t630 != 1)), rfl, H', ⟨by first | omega | exact Nat.le_refl _⟩, ⟨HO614.out⟩, ⟨HO620.out⟩, ⟨HO626.out⟩, ⟨BK627.out⟩, ⟨BK628.out⟩, ⟨BK629.out⟩, ⟨by repeat (first | (with_reducible first | exact HB.out | apply below_alloc | apply pw_below_drewN | apply below_drew1 | refine below_set ?_ GE627.out | refine below_set ?_ GE628.out | refine below_set ?_ GE629.out) | exact HB.out)⟩⟩
    rw [if_neg c50] at H
    have c50b0 : decide (t634 < t633) = false := decide_eq_false c50
    clear c50
    have H' := Aside0.mk H
    clear H
    try go_wp2
    replace HO611 := Aside0.mk (Kd.V_drew HO611.out)
    replace HO614 := Aside0.mk (Kd.R_drew HO614.out)
    replace HO617 := Aside0.mk (Kd.V_drew HO617.out)
    replace HO620 := Aside0.mk (Kd.R_drew HO620.out)
    replace HO623 := Aside0.mk (Kd.V_drew HO623.out)
    replace HO626 := Aside0.mk (Kd.R_drew HO626.out)
    replace BK627 := Aside0.mk (blk_drew BK627.out)
    replace BK628 := Aside0.mk (blk_drew BK628.out)
    replace BK629 := Aside0.mk (blk_drew BK629.out)
    replace HB := Aside0.mk (below_drew1 HB.out)
    refine start_ (n := 33) (S := fun w' => w'.cell? ⟨gb627, 0, none⟩ = some (.slice Ao26 t612.length co26) ∧ w'.cell? ⟨gb628, 0, none⟩ = some (.slice Ao30 t618.length co30)) (ds := []) #[false, false, false, false, false, false, false, false, false, false, false, false, false, false, false, false, false, false, false, false, false, false, false, false, false, false, false, false, false, false, false, false, false] (by kernel_rfl) rfl rfl ⟨(blk_cell BK627.out 0).trans rfl, (blk_cell BK628.out 0).trans rfl⟩ (fun hHeld => ?_); refine with_tabW numerarylaw02_NatOrder.tab3 numerarylaw02_NatOrder.bits3 (fun HT_ HW_ => ?_)
    generalize w39.drew = w54 at HO611 HO614 HO617 HO620 HO623 HO626 BK627 BK628 BK629 HB hHeld ⊢
    refine pureA 0 31 HT_.out ?_
    refine pureA 1 32 HT_.out ?_
    refine pureA 2 33 HT_.out ?_
    refine pureA 3 34 HT_.out ?_
    refine pureA 4 35 HT_.out ?_
    refine pureA 5 36 HT_.out ?_
    refine pureA 6 37 HT_.out ?_
    refine pureA 7 38 HT_.out ?_
    refine pureA 8 39 HT_.out ?_
    refine pureA 9 40 HT_.out ?_
    refine pureA 10 41 HT_.out ?_
    refine pureA 11 42 HT_.out ?_
    refine pureA 12 43 HT_.out ?_
    refine pureA 13 44 HT_.out ?_
    refine pureA 14 45 HT_.out ?_
    refine pureA 15 46 HT_.out ?_
    refine pureA 16 47 HT_.out ?_
    refine pureA 17 48 HT_.out ?_
    refine pureA 18 49 HT_.out ?_
    refine pureA 19 50 HT_.out ?_
    refine pureA 20 51 HT_.out ?_
    refine pureA 21 52 HT_.out ?_
    refine pureA 22 53 HT_.out ?_
    refine take_ (i := 23) (N := some 54) (v := ?_) (a' := ?_) #[true, true, true, true, true, true, true, true, true, true, true, true, true, true, true, true, true, true, true, true, true, true, true, true, false, false, false, false, false, false, false, false, false] rfl rfl (take_ofW HT_.out HW_.out (by kernel_rfl)) (fun _ _ _ h => h) (Or.inl ⟨by rfl, ?_⟩) hHeld ?_ ?_
    rotate_left
    · rintro w' ⟨s0, s1⟩
      go_simp
      with_reducible rfl
    rotate_left
    · simp only [Act.put, List.setIfInBounds_toArray, List.set_cons_zero, List.set_cons_succ, i64_w, i32_w]
      rfl
    refine take_ (i := 25) (N := some 56) (v := ?_) (a' := ?_) #[true, true, true, true, true, true, true, true, true, true, true, true, true, true, true, true, true, true, true, true, true, true, true, true, false, true, false, false, false, false, false, false, false] rfl rfl (take_ofW HT_.out HW_.out (by kernel_rfl)) (fun _ _ _ h => h) (Or.inl ⟨by rfl, ?_⟩) hHeld ?_ ?_
    rotate_left
    · rintro w' ⟨s0, s1⟩
      go_simp
      with_reducible rfl
    rotate_left
    · simp only [Act.put, List.setIfInBounds_toArray, List.set_cons_zero, List.set_cons_succ, i64_w, i32_w]
      rfl
    refine one_ (i := 24) (N := some 55) #[true, true, true, true, true, true, true, true, true, true, true, true, true, true, true, true, true, true, true, true, true, true, true, true, true, true, false, false, false, false, false, false, false] rfl rfl (one_of HT_.out (by kernel_rfl)) (by decide) (fun K hK => ?_)
    refine goes_ Try.func33 (by kernel_rfl) rfl #[.agg #[.slice Ao26 t612.length co26]] (by rfl) rfl rfl (by (try simp only [List.map_toArray, List.map_cons, List.map_nil]); first | done | rfl | (simp only [List.length_drop, List.length_take]; rfl)) ?_
    with_reducible refine (nat_Nat_Bits.calls _ _ t612 t633 _ ?side1 ?side2 A48.out).mono ?_
    (case side1 => exact (Kd.R_reads' HO614.out).2.2)
    (case side2 => exact (Kd.R_reads' HO614.out).2.1)
    rintro e w55 ⟨rfl, hb⟩
    refine ⟨_, rfl, ?_⟩
    replace HO611 := Aside0.mk (Kd.V_below HO611.out hb)
    replace HO614 := Aside0.mk (Kd.R_below HO614.out hb)
    replace HO617 := Aside0.mk (Kd.V_below HO617.out hb)
    replace HO620 := Aside0.mk (Kd.R_below HO620.out hb)
    replace HO623 := Aside0.mk (Kd.V_below HO623.out hb)
    replace HO626 := Aside0.mk (Kd.R_below HO626.out hb)
    replace BK627 := Aside0.mk (blk_below (g := gb627) (o := .cells #[.slice Ao26 t612.length co26] 25 (0, 0)) BK627.out hb)
    replace BK628 := Aside0.mk (blk_below (g := gb628) (o := .cells #[.slice Ao30 t618.length co30] 25 (0, 0)) BK628.out hb)
    replace BK629 := Aside0.mk (blk_below (g := gb629) (o := .cells #[.slice Ao33 t624.length co33] 25 (0, 0)) BK629.out hb)
    replace HB := Aside0.mk (below_step (by repeat (first | (with_reducible first | exact HB.out | apply below_alloc | apply pw_below_drewN | apply below_drew1 | refine below_set ?_ GE627.out | refine below_set ?_ GE628.out | refine below_set ?_ GE629.out) | exact HB.out)) hb)
    (try clear hb)
    (try clear hb2)
    (try clear hk)
    (try clear hi)
    refine hK.out _ _ ⟨(blk_cell BK627.out 0).trans rfl, (blk_cell BK628.out 0).trans rfl⟩ (fun hHeld => ?_)
    clear hK K
    refine norm_ (a' := ?_) ?_ ?_
    rotate_left
    · show Act.put _ (some 55) _ = _
      simp only [Act.put, List.setIfInBounds_toArray, List.set_cons_zero, List.set_cons_succ, i64_w, i32_w]
      rfl
    refine one_ (i := 26) (N := some 57) #[true, true, true, true, true, true, true, true, true, true, true, true, true, true, true, true, true, true, true, true, true, true, true, true, true, true, true, false, false, false, false, false, false] rfl rfl (one_of HT_.out (by kernel_rfl)) (by decide) (fun K hK => ?_)
    refine goes_ Try.func33 (by kernel_rfl) rfl #[.agg #[.slice Ao30 t618.length co30]] (by rfl) rfl rfl (by (try simp only [List.map_toArray, List.map_cons, List.map_nil]); first | done | rfl | (simp only [List.length_drop, List.length_take]; rfl)) ?_
    with_reducible refine (nat_Nat_Bits.calls _ _ t618 t634 _ ?side1 ?side2 A49.out).mono ?_
    (case side1 => exact (Kd.R_reads' HO620.out).2.2)
    (case side2 => exact (Kd.R_reads' HO620.out).2.1)
    rintro e w56 ⟨rfl, hb⟩
    refine ⟨_, rfl, ?_⟩
    replace HO611 := Aside0.mk (Kd.V_below HO611.out hb)
    replace HO614 := Aside0.mk (Kd.R_below HO614.out hb)
    replace HO617 := Aside0.mk (Kd.V_below HO617.out hb)
    replace HO620 := Aside0.mk (Kd.R_below HO620.out hb)
    replace HO623 := Aside0.mk (Kd.V_below HO623.out hb)
    replace HO626 := Aside0.mk (Kd.R_below HO626.out hb)
    replace BK627 := Aside0.mk (blk_below (g := gb627) (o := .cells #[.slice Ao26 t612.length co26] 25 (0, 0)) BK627.out hb)
    replace BK628 := Aside0.mk (blk_below (g := gb628) (o := .cells #[.slice Ao30 t618.length co30] 25 (0, 0)) BK628.out hb)
    replace BK629 := Aside0.mk (blk_below (g := gb629) (o := .cells #[.slice Ao33 t624.length co33] 25 (0, 0)) BK629.out hb)
    replace HB := Aside0.mk (below_step (by repeat (first | (with_reducible first | exact HB.out | apply below_alloc | apply pw_below_drewN | apply below_drew1 | refine below_set ?_ GE627.out | refine below_set ?_ GE628.out | refine below_set ?_ GE629.out) | exact HB.out)) hb)
    (try clear hb)
    (try clear hb2)
    (try clear hk)
    (try clear hi)
    refine hK.out _ _ ⟨(blk_cell BK627.out 0).trans rfl, (blk_cell BK628.out 0).trans rfl⟩ (fun hHeld => ?_)
    clear hK K
    refine norm_ (a' := ?_) ?_ ?_
    rotate_left
    · show Act.put _ (some 57) _ = _
      simp only [Act.put, List.setIfInBounds_toArray, List.set_cons_zero, List.set_cons_succ, i64_w, i32_w]
      rfl
    refine pureA 27 58 HT_.out ?_
    refine pureA 28 59 HT_.out ?_
    refine pureN 29 60 HT_.out ?_
    refine pureN 30 61 HT_.out ?_
    refine pureA 31 62 HT_.out ?_
    refine pureA 32 63 HT_.out ?_
    refine done_ (done_of HT_.out (by kernel_rfl)) ?_
    try go_wp2
    go_meet
    case rel => exact ⟨_, (false), rfl, H', ⟨by first | omega | exact Nat.le_refl _⟩, ⟨HO614.out⟩, ⟨HO620.out⟩, ⟨HO626.out⟩, ⟨BK627.out⟩, ⟨BK628.out⟩, ⟨BK629.out⟩, ⟨by repeat (first | (with_reducible first | exact HB.out | apply below_alloc | apply pw_below_drewN | apply below_drew1 | refine below_set ?_ GE627.out | refine below_set ?_ GE628.out | refine below_set ?_ GE629.out) | exact HB.out)⟩⟩
  case rest =>
    clear HC13
    try clear c1
    try clear p2
    try clear c3
    try clear c13
    try clear c33
    try clear c130
    try clear c130b0
    obtain ⟨kq, x63_12, rfl, HA, HJ12, HO_628000, HO_629000, HO_630000, BK627, BK628, BK629, HB⟩ := hcut
    cases kq with
    | zero => exact absurd HA.out (by simp [numerarylaw02_NatOrder.j0])
    | succ kj12 =>
      have H := HA.out
      clear HA
      simp only [numerarylaw02_NatOrder.j0] at H
      by_cases c137 : x63_12 = true
      · subst c137
        have H1 : (some false) = some r := by rw [if_pos rfl] at H; exact H
        clear H
        have H := H1
        clear H1
        exact absurd (H.trans (congrArg some HR_.out)) (by simp)
      replace c137 := Bool.eq_false_iff.mpr c137
      subst c137
      have H1 : ((numerarylaw02_wakes.f kj12).bind fun t651 => (if t651 = true then ((nat_Add.f kj12 t612 t624).bind fun t652 => ((nat_Add.f kj12 t618 t624).bind fun t655 => ((nat_Cmp.f kj12 t652 t655).bind fun t658 => (if t658 = t630 then ((nat_Cmp.f kj12 t612 t612).bind fun t659 => (some (t659 == 0))) else (some false))))) else (some false))) = some r := by rw [if_neg (show ¬ (false = true) by decide)] at H; exact H
      clear H
      have H := H1
      clear H1
      replace H := Option.bind_eq_some_iff.mp H
      obtain ⟨t651, A1380, H⟩ := H
      have A138 := Aside0.mk A1380
      clear A1380
      by_cases c139 : t651 = true
      rotate_left
      · replace c139 := Bool.eq_false_iff.mpr c139
        subst c139
        have H1 : (some false) = some r := by rw [if_neg (show ¬ (false = true) by decide)] at H; exact H
        clear H
        have H := H1
        clear H1
        exact absurd (H.trans (congrArg some HR_.out)) (by simp)

      subst c139
      have H1 : ((nat_Add.f kj12 t612 t624).bind fun t652 => ((nat_Add.f kj12 t618 t624).bind fun t655 => ((nat_Cmp.f kj12 t652 t655).bind fun t658 => (if t658 = t630 then ((nat_Cmp.f kj12 t612 t612).bind fun t659 => (some (t659 == 0))) else (some false))))) = some r := by rw [if_pos rfl] at H; exact H
      clear H
      have H := H1
      clear H1
      replace H := Option.bind_eq_some_iff.mp H
      obtain ⟨t652, A1400, H⟩ := H
      have A140 := Aside0.mk A1400
      clear A1400
      replace H := Option.bind_eq_some_iff.mp H
      obtain ⟨t655, A1410, H⟩ := H
      have A141 := Aside0.mk A1410
      clear A1410
      replace H := Option.bind_eq_some_iff.mp H
      obtain ⟨t658, A1420, H⟩ := H
      have A142 := Aside0.mk A1420
      clear A1420
      by_cases c143 : t658 = t630
      rotate_left
      · rw [if_neg c143] at H
        exact absurd (H.trans (congrArg some HR_.out)) (by simp)
      rw [if_pos c143] at H
      have c143b0 : (t658 == t630) = true := beq_iff_eq.mpr c143
      have c143b1 : (t658 != t630) = false := bne_eq_false_iff_eq.mpr c143
      clear c143
      replace H := Option.bind_eq_some_iff.mp H
      obtain ⟨t659, A1440, H⟩ := H
      have A144 := Aside0.mk A1440
      clear A1440
      obtain rfl := Option.some.inj H
      try go_wp2
      replace HO_628000 := Aside0.mk (Kd.R_drew HO_628000.out)
      replace HO_629000 := Aside0.mk (Kd.R_drew HO_629000.out)
      replace HO_630000 := Aside0.mk (Kd.R_drew HO_630000.out)
      replace BK627 := Aside0.mk (blk_drew BK627.out)
      replace BK628 := Aside0.mk (blk_drew BK628.out)
      replace BK629 := Aside0.mk (blk_drew BK629.out)
      replace HB := Aside0.mk (below_drew1 HB.out)
      refine start_ (n := 19) (S := fun w' => w'.cell? ⟨gb627, 0, none⟩ = some (.slice Ao26 t612.length co26) ∧ w'.cell? ⟨gb629, 0, none⟩ = some (.slice Ao33 t624.length co33) ∧ w'.cell? ⟨gb628, 0, none⟩ = some (.slice Ao30 t618.length co30)) (ds := []) #[false, false, false, false, false, false, false, false, false, false, false, false, false, false, false, false, false, false, false] (by kernel_rfl) rfl rfl ⟨(blk_cell BK627.out 0).trans rfl, (blk_cell BK629.out 0).trans rfl, (blk_cell BK628.out 0).trans rfl⟩ (fun hHeld => ?_); refine with_tabW numerarylaw02_NatOrder.tab5 numerarylaw02_NatOrder.bits5 (fun HT_ HW_ => ?_)
      generalize wc.drew = w145 at HO_628000 HO_629000 HO_630000 BK627 BK628 BK629 HB hHeld ⊢
      refine one_ (i := 0) (N := some 64) #[true, false, false, false, false, false, false, false, false, false, false, false, false, false, false, false, false, false, false] rfl rfl (one_of HT_.out (by kernel_rfl)) (by decide) (fun K hK => ?_)
      refine goes_ Try.func32 (by kernel_rfl) rfl #[] (by rfl) rfl rfl (by (try simp only [List.map_toArray, List.map_cons, List.map_nil]); first | done | rfl | (simp only [List.length_drop, List.length_take]; rfl)) ?_
      with_reducible refine (numerarylaw02_wakes.calls kj12  true _ A138.out).mono ?_
      rintro e w146 ⟨rfl, hb⟩
      refine ⟨_, rfl, ?_⟩
      replace HO_628000 := Aside0.mk (Kd.R_below HO_628000.out hb)
      replace HO_629000 := Aside0.mk (Kd.R_below HO_629000.out hb)
      replace HO_630000 := Aside0.mk (Kd.R_below HO_630000.out hb)
      replace BK627 := Aside0.mk (blk_below (g := gb627) (o := .cells #[.slice Ao26 t612.length co26] 25 (0, 0)) BK627.out hb)
      replace BK628 := Aside0.mk (blk_below (g := gb628) (o := .cells #[.slice Ao30 t618.length co30] 25 (0, 0)) BK628.out hb)
      replace BK629 := Aside0.mk (blk_below (g := gb629) (o := .cells #[.slice Ao33 t624.length co33] 25 (0, 0)) BK629.out hb)
      replace HB := Aside0.mk (below_step (by repeat (first | (with_reducible first | exact HB.out | apply below_alloc | apply pw_below_drewN | apply below_drew1 | refine below_set ?_ GE627.out | refine below_set ?_ GE628.out | refine below_set ?_ GE629.out) | exact HB.out)) hb)
      (try clear hb)
      (try clear hb2)
      (try clear hk)
      (try clear hi)
      refine hK.out _ _ ⟨(blk_cell BK627.out 0).trans rfl, (blk_cell BK629.out 0).trans rfl, (blk_cell BK628.out 0).trans rfl⟩ (fun hHeld => ?_)
      clear hK K
      refine norm_ (a' := ?_) ?_ ?_
      rotate_left
      · show Act.put _ (some 64) _ = _
        simp only [Act.put, List.setIfInBounds_toArray, List.set_cons_zero, List.set_cons_succ, i64_w, i32_w]
        rfl
      refine pureA 1 65 HT_.out ?_
      refine pureA 9 73 HT_.out ?_
      refine take_ (i := 2) (N := some 66) (v := ?_) (a' := ?_) #[true, true, true, false, false, false, false, false, false, true, false, false, false, false, false, false, false, false, false] rfl rfl (take_ofW HT_.out HW_.out (by kernel_rfl)) (fun _ _ _ h => h) (Or.inl ⟨by rfl, ?_⟩) hHeld ?_ ?_
      rotate_left
      · rintro w' ⟨s0, s1, s2⟩
        go_simp
        with_reducible rfl
      rotate_left
      · simp only [Act.put, List.setIfInBounds_toArray, List.set_cons_zero, List.set_cons_succ, i64_w, i32_w]
        rfl
      refine take_ (i := 3) (N := some 67) (v := ?_) (a' := ?_) #[true, true, true, true, false, false, false, false, false, true, false, false, false, false, false, false, false, false, false] rfl rfl (take_ofW HT_.out HW_.out (by kernel_rfl)) (fun _ _ _ h => h) (Or.inl ⟨by rfl, ?_⟩) hHeld ?_ ?_
      rotate_left
      · rintro w' ⟨s0, s1, s2⟩
        go_simp
        with_reducible rfl
      rotate_left
      · simp only [Act.put, List.setIfInBounds_toArray, List.set_cons_zero, List.set_cons_succ, i64_w, i32_w]
        rfl
      refine take_ (i := 5) (N := some 69) (v := ?_) (a' := ?_) #[true, true, true, true, false, true, false, false, false, true, false, false, false, false, false, false, false, false, false] rfl rfl (take_ofW HT_.out HW_.out (by kernel_rfl)) (fun _ _ _ h => h) (Or.inl ⟨by rfl, ?_⟩) hHeld ?_ ?_
      rotate_left
      · rintro w' ⟨s0, s1, s2⟩
        go_simp
        with_reducible rfl
      rotate_left
      · simp only [Act.put, List.setIfInBounds_toArray, List.set_cons_zero, List.set_cons_succ, i64_w, i32_w]
        rfl
      refine take_ (i := 6) (N := some 70) (v := ?_) (a' := ?_) #[true, true, true, true, false, true, true, false, false, true, false, false, false, false, false, false, false, false, false] rfl rfl (take_ofW HT_.out HW_.out (by kernel_rfl)) (fun _ _ _ h => h) (Or.inl ⟨by rfl, ?_⟩) hHeld ?_ ?_
      rotate_left
      · rintro w' ⟨s0, s1, s2⟩
        go_simp
        with_reducible rfl
      rotate_left
      · simp only [Act.put, List.setIfInBounds_toArray, List.set_cons_zero, List.set_cons_succ, i64_w, i32_w]
        rfl
      refine one_ (i := 4) (N := some 68) #[true, true, true, true, true, true, true, false, false, true, false, false, false, false, false, false, false, false, false] rfl rfl (one_of HT_.out (by kernel_rfl)) (by decide) (fun K hK => ?_)
      refine goes_ Try.func38 (by kernel_rfl) rfl #[.agg #[.slice Ao26 t612.length co26], .agg #[.slice Ao33 t624.length co33]] (by rfl) rfl rfl (by (try simp only [List.map_toArray, List.map_cons, List.map_nil]); first | done | rfl | (simp only [List.length_drop, List.length_take]; rfl)) ?_
      with_reducible refine (nat_Add.calls kj12 _ _ t612 _ _ t624 t652 _ ?side1 ?side2 ?side3 ?side4 A140.out).mono ?_
      (case side1 => exact (Kd.R_reads' HO_628000.out).2.2)
      (case side2 => exact (Kd.R_reads' HO_628000.out).2.1)
      (case side3 => exact (Kd.R_reads' HO_630000.out).2.2)
      (case side4 => exact (Kd.R_reads' HO_630000.out).2.1)
      rintro e w147 ⟨v653, rfl, ho0, hb⟩
      refine ⟨_, rfl, ?_⟩
      have HO654 := Aside0.mk (Kd.R_lower (Kd.R_new' (Kd.R_new' (Kd.R_new' ho0 (Kd.R_lt HO_628000.out)) (Kd.R_lt HO_629000.out)) (Kd.R_lt HO_630000.out)) (below_size (by repeat (first | (with_reducible first | exact HB.out | apply below_alloc | apply pw_below_drewN | apply below_drew1 | refine below_set ?_ GE627.out | refine below_set ?_ GE628.out | refine below_set ?_ GE629.out) | exact HB.out))))
      replace HO_628000 := Aside0.mk (Kd.R_elder' HO_628000.out (Kd.R_base ho0) hb)
      replace HO_629000 := Aside0.mk (Kd.R_elder' HO_629000.out (Kd.R_base ho0) hb)
      replace HO_630000 := Aside0.mk (Kd.R_elder' HO_630000.out (Kd.R_base ho0) hb)
      replace BK627 := Aside0.mk (blk_below (g := gb627) (o := .cells #[.slice Ao26 t612.length co26] 25 (0, 0)) BK627.out hb)
      replace BK628 := Aside0.mk (blk_below (g := gb628) (o := .cells #[.slice Ao30 t618.length co30] 25 (0, 0)) BK628.out hb)
      replace BK629 := Aside0.mk (blk_below (g := gb629) (o := .cells #[.slice Ao33 t624.length co33] 25 (0, 0)) BK629.out hb)
      replace HB := Aside0.mk (below_step (by repeat (first | (with_reducible first | exact HB.out | apply below_alloc | apply pw_below_drewN | apply below_drew1 | refine below_set ?_ GE627.out | refine below_set ?_ GE628.out | refine below_set ?_ GE629.out) | exact HB.out)) hb)
      (try clear hb)
      (try clear hb2)
      (try clear hk)
      (try clear hi)
      (try clear ho0)
      refine hK.out _ _ ⟨(blk_cell BK627.out 0).trans rfl, (blk_cell BK629.out 0).trans rfl, (blk_cell BK628.out 0).trans rfl⟩ (fun hHeld => ?_)
      clear hK K
      refine norm_ (a' := ?_) ?_ ?_
      rotate_left
      · show Act.put _ (some 68) _ = _
        simp only [Act.put, List.setIfInBounds_toArray, List.set_cons_zero, List.set_cons_succ, i64_w, i32_w]
        rfl
      refine one_ (i := 7) (N := some 71) #[true, true, true, true, true, true, true, true, false, true, false, false, false, false, false, false, false, false, false] rfl rfl (one_of HT_.out (by kernel_rfl)) (by decide) (fun K hK => ?_)
      refine goes_ Try.func38 (by kernel_rfl) rfl #[.agg #[.slice Ao30 t618.length co30], .agg #[.slice Ao33 t624.length co33]] (by rfl) rfl rfl (by (try simp only [List.map_toArray, List.map_cons, List.map_nil]); first | done | rfl | (simp only [List.length_drop, List.length_take]; rfl)) ?_
      with_reducible refine (nat_Add.calls kj12 _ _ t618 _ _ t624 t655 _ ?side1 ?side2 ?side3 ?side4 A141.out).mono ?_
      (case side1 => exact (Kd.R_reads' HO_629000.out).2.2)
      (case side2 => exact (Kd.R_reads' HO_629000.out).2.1)
      (case side3 => exact (Kd.R_reads' HO_630000.out).2.2)
      (case side4 => exact (Kd.R_reads' HO_630000.out).2.1)
      rintro e w148 ⟨v656, rfl, ho0, hb⟩
      refine ⟨_, rfl, ?_⟩
      have HO657 := Aside0.mk (Kd.R_lower (Kd.R_new' (Kd.R_new' (Kd.R_new' (Kd.R_new' ho0 (Kd.R_lt HO_628000.out)) (Kd.R_lt HO_629000.out)) (Kd.R_lt HO_630000.out)) (Kd.R_lt HO654.out)) (below_size (by repeat (first | (with_reducible first | exact HB.out | apply below_alloc | apply pw_below_drewN | apply below_drew1 | refine below_set ?_ GE627.out | refine below_set ?_ GE628.out | refine below_set ?_ GE629.out) | exact HB.out))))
      replace HO_628000 := Aside0.mk (Kd.R_elder' HO_628000.out (Kd.R_base ho0) hb)
      replace HO_629000 := Aside0.mk (Kd.R_elder' HO_629000.out (Kd.R_base ho0) hb)
      replace HO_630000 := Aside0.mk (Kd.R_elder' HO_630000.out (Kd.R_base ho0) hb)
      replace HO654 := Aside0.mk (Kd.R_elder' HO654.out (Kd.R_base ho0) hb)
      replace BK627 := Aside0.mk (blk_below (g := gb627) (o := .cells #[.slice Ao26 t612.length co26] 25 (0, 0)) BK627.out hb)
      replace BK628 := Aside0.mk (blk_below (g := gb628) (o := .cells #[.slice Ao30 t618.length co30] 25 (0, 0)) BK628.out hb)
      replace BK629 := Aside0.mk (blk_below (g := gb629) (o := .cells #[.slice Ao33 t624.length co33] 25 (0, 0)) BK629.out hb)
      replace HB := Aside0.mk (below_step (by repeat (first | (with_reducible first | exact HB.out | apply below_alloc | apply pw_below_drewN | apply below_drew1 | refine below_set ?_ GE627.out | refine below_set ?_ GE628.out | refine below_set ?_ GE629.out) | exact HB.out)) hb)
      (try clear hb)
      (try clear hb2)
      (try clear hk)
      (try clear hi)
      (try clear ho0)
      obtain ⟨Ao149, co149, eo149⟩ := Kd.R_slice HO654.out
      (first | subst eo149 | (injection eo149 with f1_ f2_ f3_; have f4_ := f1_.symm; have f5_ := f3_.symm; clear f1_ f2_ f3_; subst f4_; subst f5_))
      obtain ⟨Ao150, co150, eo150⟩ := Kd.R_slice HO657.out
      (first | subst eo150 | (injection eo150 with f1_ f2_ f3_; have f4_ := f1_.symm; have f5_ := f3_.symm; clear f1_ f2_ f3_; subst f4_; subst f5_))
      refine hK.out _ _ ⟨(blk_cell BK627.out 0).trans rfl, (blk_cell BK629.out 0).trans rfl, (blk_cell BK628.out 0).trans rfl⟩ (fun hHeld => ?_)
      clear hK K
      refine norm_ (a' := ?_) ?_ ?_
      rotate_left
      · show Act.put _ (some 71) _ = _
        simp only [Act.put, List.setIfInBounds_toArray, List.set_cons_zero, List.set_cons_succ, i64_w, i32_w]
        rfl
      refine one_ (i := 8) (N := some 72) #[true, true, true, true, true, true, true, true, true, true, false, false, false, false, false, false, false, false, false] rfl rfl (one_of HT_.out (by kernel_rfl)) (by decide) (fun K hK => ?_)
      refine goes_ Try.func37 (by kernel_rfl) rfl #[.agg #[.slice Ao149 t652.length co149], .agg #[.slice Ao150 t655.length co150]] (by rfl) rfl rfl (by (try simp only [List.map_toArray, List.map_cons, List.map_nil]); first | done | rfl | (simp only [List.length_drop, List.length_take]; rfl)) ?_
      with_reducible refine (nat_Cmp.calls kj12 _ _ t652 _ _ t655 t658 _ ?side1 ?side2 ?side3 ?side4 A142.out).mono ?_
      (case side1 => exact (Kd.R_reads' HO654.out).2.2)
      (case side2 => exact (Kd.R_reads' HO654.out).2.1)
      (case side3 => exact (Kd.R_reads' HO657.out).2.2)
      (case side4 => exact (Kd.R_reads' HO657.out).2.1)
      rintro e w151 ⟨rfl, hb⟩
      refine ⟨_, rfl, ?_⟩
      replace HO_628000 := Aside0.mk (Kd.R_below HO_628000.out hb)
      replace HO_629000 := Aside0.mk (Kd.R_below HO_629000.out hb)
      replace HO_630000 := Aside0.mk (Kd.R_below HO_630000.out hb)
      replace HO654 := Aside0.mk (Kd.R_below HO654.out hb)
      replace HO657 := Aside0.mk (Kd.R_below HO657.out hb)
      replace BK627 := Aside0.mk (blk_below (g := gb627) (o := .cells #[.slice Ao26 t612.length co26] 25 (0, 0)) BK627.out hb)
      replace BK628 := Aside0.mk (blk_below (g := gb628) (o := .cells #[.slice Ao30 t618.length co30] 25 (0, 0)) BK628.out hb)
      replace BK629 := Aside0.mk (blk_below (g := gb629) (o := .cells #[.slice Ao33 t624.length co33] 25 (0, 0)) BK629.out hb)
      replace HB := Aside0.mk (below_step (by repeat (first | (with_reducible first | exact HB.out | apply below_alloc | apply pw_below_drewN | apply below_drew1 | refine below_set ?_ GE627.out | refine below_set ?_ GE628.out | refine below_set ?_ GE629.out) | exact HB.out)) hb)
      (try clear hb)
      (try clear hb2)
      (try clear hk)
      (try clear hi)
      refine hK.out _ _ ⟨(blk_cell BK627.out 0).trans rfl, (blk_cell BK629.out 0).trans rfl, (blk_cell BK628.out 0).trans rfl⟩ (fun hHeld => ?_)
      clear hK K
      refine norm_ (a' := ?_) ?_ ?_
      rotate_left
      · show Act.put _ (some 72) _ = _
        simp only [Act.put, List.setIfInBounds_toArray, List.set_cons_zero, List.set_cons_succ, i64_w, i32_w]
        rfl
      refine pureA 10 74 HT_.out ?_
      refine pureA 11 75 HT_.out ?_
      refine pureA 12 76 HT_.out ?_
      refine take_ (i := 13) (N := some 77) (v := ?_) (a' := ?_) #[true, true, true, true, true, true, true, true, true, true, true, true, true, true, false, false, false, false, false] rfl rfl (take_ofW HT_.out HW_.out (by kernel_rfl)) (fun _ _ _ h => h) (Or.inl ⟨by rfl, ?_⟩) hHeld ?_ ?_
      rotate_left
      · rintro w' ⟨s0, s1, s2⟩
        go_simp
        with_reducible rfl
      rotate_left
      · simp only [Act.put, List.setIfInBounds_toArray, List.set_cons_zero, List.set_cons_succ, i64_w, i32_w]
        rfl
      refine take_ (i := 14) (N := some 78) (v := ?_) (a' := ?_) #[true, true, true, true, true, true, true, true, true, true, true, true, true, true, true, false, false, false, false] rfl rfl (take_ofW HT_.out HW_.out (by kernel_rfl)) (fun _ _ _ h => h) (Or.inl ⟨by rfl, ?_⟩) hHeld ?_ ?_
      rotate_left
      · rintro w' ⟨s0, s1, s2⟩
        go_simp
        with_reducible rfl
      rotate_left
      · simp only [Act.put, List.setIfInBounds_toArray, List.set_cons_zero, List.set_cons_succ, i64_w, i32_w]
        rfl
      refine one_ (i := 15) (N := some 79) #[true, true, true, true, true, true, true, true, true, true, true, true, true, true, true, true, false, false, false] rfl rfl (one_of HT_.out (by kernel_rfl)) (by decide) (fun K hK => ?_)
      refine goes_ Try.func37 (by kernel_rfl) rfl #[.agg #[.slice Ao26 t612.length co26], .agg #[.slice Ao26 t612.length co26]] (by rfl) rfl rfl (by (try simp only [List.map_toArray, List.map_cons, List.map_nil]); first | done | rfl | (simp only [List.length_drop, List.length_take]; rfl)) ?_
      with_reducible refine (nat_Cmp.calls kj12 _ _ t612 _ _ t612 t659 _ ?side1 ?side2 ?side3 ?side4 A144.out).mono ?_
      (case side1 => exact (Kd.R_reads' HO_628000.out).2.2)
      (case side2 => exact (Kd.R_reads' HO_628000.out).2.1)
      (case side3 => exact (Kd.R_reads' HO_628000.out).2.2)
      (case side4 => exact (Kd.R_reads' HO_628000.out).2.1)
      rintro e w152 ⟨rfl, hb⟩
      refine ⟨_, rfl, ?_⟩
      replace HO_628000 := Aside0.mk (Kd.R_below HO_628000.out hb)
      replace HO_629000 := Aside0.mk (Kd.R_below HO_629000.out hb)
      replace HO_630000 := Aside0.mk (Kd.R_below HO_630000.out hb)
      replace HO654 := Aside0.mk (Kd.R_below HO654.out hb)
      replace HO657 := Aside0.mk (Kd.R_below HO657.out hb)
      replace BK627 := Aside0.mk (blk_below (g := gb627) (o := .cells #[.slice Ao26 t612.length co26] 25 (0, 0)) BK627.out hb)
      replace BK628 := Aside0.mk (blk_below (g := gb628) (o := .cells #[.slice Ao30 t618.length co30] 25 (0, 0)) BK628.out hb)
      replace BK629 := Aside0.mk (blk_below (g := gb629) (o := .cells #[.slice Ao33 t624.length co33] 25 (0, 0)) BK629.out hb)
      replace HB := Aside0.mk (below_step (by repeat (first | (with_reducible first | exact HB.out | apply below_alloc | apply pw_below_drewN | apply below_drew1 | refine below_set ?_ GE627.out | refine below_set ?_ GE628.out | refine below_set ?_ GE629.out) | exact HB.out)) hb)
      (try clear hb)
      (try clear hb2)
      (try clear hk)
      (try clear hi)
      refine hK.out _ _ ⟨(blk_cell BK627.out 0).trans rfl, (blk_cell BK629.out 0).trans rfl, (blk_cell BK628.out 0).trans rfl⟩ (fun hHeld => ?_)
      clear hK K
      refine norm_ (a' := ?_) ?_ ?_
      rotate_left
      · show Act.put _ (some 79) _ = _
        simp only [Act.put, List.setIfInBounds_toArray, List.set_cons_zero, List.set_cons_succ, i64_w, i32_w]
        rfl
      refine pureA 16 80 HT_.out ?_
      refine pureA 17 81 HT_.out ?_
      refine pureA 18 6 HT_.out ?_
      refine done_ (done_of HT_.out (by kernel_rfl)) ?_
      try go_wp2
      go_ret
      exact ⟨rfl, by repeat (first | (with_reducible first | exact HB.out | apply below_alloc | apply pw_below_drewN | apply below_drew1 | refine below_set ?_ GE627.out | refine below_set ?_ GE628.out | refine below_set ?_ GE629.out) | exact HB.out)⟩
/-- THE ONE PURE STATEMENT of numerarylaw02_NatOrder: yours. -/
def numerarylaw02_NatOrder.Pure : Prop := ∀ (l0 : List Int) (l1 : List Int) (l2 : List Int), l0.length ≤ maxLen → l0.length * 4 ≤ 140737488351232 → (∀ x ∈ l0, (Lit.int .u32 x).wf = true) → l1.length ≤ maxLen → l1.length * 4 ≤ 140737488351232 → (∀ x ∈ l1, (Lit.int .u32 x).wf = true) → l2.length ≤ maxLen → l2.length * 4 ≤ 140737488351232 → (∀ x ∈ l2, (Lit.int .u32 x).wf = true) → ∃ k, numerarylaw02_NatOrder.f k l0 l1 l2 = some true
theorem numerarylaw02_NatOrder.walk (P : numerarylaw02_NatOrder.Pure) (a0 : Option Addr) (len0 cap0 : Nat) (z0 : List Int) (a1 : Option Addr) (len1 cap1 : Nat) (z1 : List Int) (a2 : Option Addr) (len2 cap2 : Nat) (z2 : List Int) (w : World) (w0 : (a0 = none ∧ len0 = 0 ∧ cap0 = 0 ∧ z0 = []) ∨ ∃ x, a0 = some x ∧ len0 ≤ cap0 ∧ cap0 ≤ maxLen ∧ z0.length = cap0 ∧ (∀ i, i < z0.length → w.cell? (x.add i) = some (.int .u32 (z0.getD i 0))) ∧ ∀ n ∈ z0, (Lit.int .u32 n).wf = true) (y0 : len0 * 4 ≤ 140737488351232) (w1 : (a1 = none ∧ len1 = 0 ∧ cap1 = 0 ∧ z1 = []) ∨ ∃ x, a1 = some x ∧ len1 ≤ cap1 ∧ cap1 ≤ maxLen ∧ z1.length = cap1 ∧ (∀ i, i < z1.length → w.cell? (x.add i) = some (.int .u32 (z1.getD i 0))) ∧ ∀ n ∈ z1, (Lit.int .u32 n).wf = true) (y1 : len1 * 4 ≤ 140737488351232) (w2 : (a2 = none ∧ len2 = 0 ∧ cap2 = 0 ∧ z2 = []) ∨ ∃ x, a2 = some x ∧ len2 ≤ cap2 ∧ cap2 ≤ maxLen ∧ z2.length = cap2 ∧ (∀ i, i < z2.length → w.cell? (x.add i) = some (.int .u32 (z2.getD i 0))) ∧ ∀ n ∈ z2, (Lit.int .u32 n).wf = true) (y2 : len2 * 4 ≤ 140737488351232) :
    Calls Try.prog 9 #[.slice a0 len0 cap0, .slice a1 len1 cap1, .slice a2 len2 cap2] w fun e w' => e = .returned (.bool true) ∧ Below w.heap.size w w' := by
  obtain ⟨l0, rfl, hr0, hm0, hw0, hc0⟩ := ReadsInt.ofRowC w0
  obtain ⟨l1, rfl, hr1, hm1, hw1, hc1⟩ := ReadsInt.ofRowC w1
  obtain ⟨l2, rfl, hr2, hm2, hw2, hc2⟩ := ReadsInt.ofRowC w2
  obtain ⟨k, h⟩ := P l0 l1 l2 hm0 y0 hw0 hm1 y1 hw1 hm2 y2 hw2
  refine (numerarylaw02_NatOrder.calls k _ _ l0 _ _ l1 _ _ l2 true w (Kd.C_of_reads (d := (0 : Int)) (h1 := fun _ => rfl) hr0) hc0 (Kd.C_of_reads (d := (0 : Int)) (h1 := fun _ => rfl) hr1) hc1 (Kd.C_of_reads (d := (0 : Int)) (h1 := fun _ => rfl) hr2) hc2 h rfl).mono ?_
  rintro e w' ⟨rfl, hd⟩
  exact ⟨rfl, hd⟩

end Go.Proofs.Ytcepdndhkidehaa.PA
end
section
namespace Go.Proofs.Ytcepdndhkidehaa.M
open Go.RowKit Go.Proofs.YtcepdndhkidehaaW.PrintWords Go.Proofs.YtcepdndhkidehaaW.PrintLast Go.Proofs.YtcepdndhkidehaaW.PrintMore
set_option linter.unusedVariables false
set_option linter.unusedSimpArgs false

/-! ### rounds -/
theorem ev_pos {α : Type} {c : Prop} [Decidable c] (h : c) {a b : Nat → Option α} {r : α} (ha : Ev a r) : Ev (fun k => if c then a k else b k) r := by
  simpa only [if_pos h] using ha
theorem ev_neg {α : Type} {c : Prop} [Decidable c] (h : ¬ c) {a b : Nat → Option α} {r : α} (hb : Ev b r) : Ev (fun k => if c then a k else b k) r := by
  simpa only [if_neg h] using hb
theorem ev_some {α β : Type} {o : Option α} {a : α} {f : Nat → α → Option β} {r : β} (h : o = some a) (k : Ev (fun n => f n a) r) : Ev (fun n => o.bind (f n)) r := by
  subst h; exact k
theorem ev_now {α : Type} {a r : α} (h : a = r) : Ev (fun _ => some a) r := by
  subst h; exact Ev.now _

/-! ### lists of naturals as lists of integers -/
def nl (l : List Nat) : List Int := l.map Int.ofNat
def gd (l : List Nat) (i : Nat) : Nat := l.getD i 0
theorem nl_length (l : List Nat) : (nl l).length = l.length := List.length_map _
theorem nl_cons (x : Nat) (l : List Nat) : nl (x :: l) = (x : Int) :: nl l := rfl
theorem nl_append (a b : List Nat) : nl (a ++ b) = nl a ++ nl b := List.map_append
theorem nl_take (l : List Nat) (n : Nat) : (nl l).take n = nl (l.take n) := by unfold nl; rw [List.map_take]
theorem nl_set (l : List Nat) (i v : Nat) : (nl l).set i (v : Int) = nl (l.set i v) := by unfold nl; rw [List.map_set]; rfl
theorem nl_replicate (n v : Nat) : List.replicate n (v : Int) = nl (List.replicate n v) := by unfold nl; rw [List.map_replicate]; rfl
theorem rd_nl (l : List Nat) (i : Nat) : rd (nl l) (i : Int) = (gd l i : Nat) := by
  unfold rd gd nl
  rw [Int.toNat_natCast, List.getD_eq_getElem?_getD, List.getD_eq_getElem?_getD, List.getElem?_map]
  cases l[i]? <;> rfl
theorem toNl {l : List Int} (h : ∀ x ∈ l, 0 ≤ x) : l = nl (l.map Int.toNat) := by
  induction l with
  | nil => rfl
  | cons x l ih =>
    rw [List.map_cons, nl_cons, ← ih (fun y hy => h y (List.mem_cons_of_mem _ hy)), Int.toNat_of_nonneg (h x List.mem_cons_self)]
theorem gd_ge {l : List Nat} {i : Nat} (h : l.length ≤ i) : gd l i = 0 := by unfold gd; rw [List.getD_eq_getElem?_getD, List.getElem?_eq_none h]; rfl
theorem gd_cons_zero (x : Nat) (l : List Nat) : gd (x :: l) 0 = x := rfl
theorem gd_append_right (a b : List Nat) (i : Nat) : gd (a ++ b) (a.length + i) = gd b i := by
  unfold gd; rw [List.getD_eq_getElem?_getD, List.getD_eq_getElem?_getD, List.getElem?_append_right (by omega), Nat.add_sub_cancel_left]
theorem gd_append_left (a b : List Nat) (i : Nat) (h : i < a.length) : gd (a ++ b) i = gd a i := by
  unfold gd; rw [List.getD_eq_getElem?_getD, List.getD_eq_getElem?_getD, List.getElem?_append_left h]
theorem gd_set (l : List Nat) (i j v : Nat) (h : i < l.length) : gd (l.set i v) j = if i = j then v else gd l j := by
  unfold gd; rw [List.getD_eq_getElem?_getD, List.getD_eq_getElem?_getD, List.getElem?_set]
  by_cases e : i = j
  · subst e; simp [h]
  · simp [e]
theorem take_succ (l : List Nat) (i : Nat) (h : i < l.length) : l.take (i + 1) = l.take i ++ [gd l i] := by
  rw [List.take_succ_eq_append_getElem h]; unfold gd; rw [List.getD_eq_getElem?_getD, List.getElem?_eq_getElem h]; rfl
theorem drop_cons (l : List Nat) (i : Nat) (h : i < l.length) : l.drop i = gd l i :: l.drop (i + 1) := by
  rw [List.drop_eq_getElem_cons h]; unfold gd; rw [List.getD_eq_getElem?_getD, List.getElem?_eq_getElem h]; rfl
theorem take_set_succ (l : List Nat) (i v : Nat) (h : i < l.length) : (l.set i v).take (i + 1) = l.take i ++ [v] := by
  rw [take_succ _ _ (by rw [List.length_set]; exact h), gd_set _ _ _ _ h, if_pos rfl, List.take_set_of_le (Nat.le_refl _)]
/-! ### the value of digits -/
def val (B : Nat) : List Nat → Nat
  | [] => 0
  | x :: l => x + B * val B l
def Dg (B : Nat) (l : List Nat) : Prop := ∀ x ∈ l, x < B
theorem Dg.nil (B : Nat) : Dg B [] := fun x h => by cases h
theorem Dg.cons {B x : Nat} {l : List Nat} (hx : x < B) (h : Dg B l) : Dg B (x :: l) := fun y hy => by
  rcases List.mem_cons.mp hy with rfl | hy
  · exact hx
  · exact h y hy
theorem Dg.head {B x : Nat} {l : List Nat} (h : Dg B (x :: l)) : x < B := h x List.mem_cons_self
theorem Dg.tail {B x : Nat} {l : List Nat} (h : Dg B (x :: l)) : Dg B l := fun y hy => h y (List.mem_cons_of_mem _ hy)
theorem Dg.append {B : Nat} {a b : List Nat} (h : Dg B a) (k : Dg B b) : Dg B (a ++ b) := fun x hx => by
  rcases List.mem_append.mp hx with hx | hx
  · exact h x hx
  · exact k x hx
theorem Dg.take {B : Nat} {l : List Nat} (h : Dg B l) (n : Nat) : Dg B (l.take n) := fun x hx => h x (List.mem_of_mem_take hx)
theorem Dg.drop {B : Nat} {l : List Nat} (h : Dg B l) (n : Nat) : Dg B (l.drop n) := fun x hx => h x (List.mem_of_mem_drop hx)
theorem Dg.set {B : Nat} {l : List Nat} (h : Dg B l) (i : Nat) {v : Nat} (hv : v < B) : Dg B (l.set i v) := fun x hx => by
  rcases List.mem_or_eq_of_mem_set hx with hx | rfl
  · exact h x hx
  · exact hv
theorem Dg.replicate {B : Nat} (hB : 0 < B) (n : Nat) : Dg B (List.replicate n 0) := fun x hx => by
  rw [List.eq_of_mem_replicate hx]; exact hB
theorem Dg.gd {B : Nat} {l : List Nat} (h : Dg B l) (hB : 0 < B) (i : Nat) : gd l i < B := by
  unfold M.gd; rw [List.getD_eq_getElem?_getD]
  rcases Nat.lt_or_ge i l.length with hi | hi
  · rw [List.getElem?_eq_getElem hi]; exact h _ (List.getElem_mem hi)
  · rw [List.getElem?_eq_none hi]; exact hB
theorem val_append (B : Nat) (a b : List Nat) : val B (a ++ b) = val B a + B ^ a.length * val B b := by
  induction a with
  | nil => simp [val]
  | cons x a ih => rw [List.cons_append, val, ih, val, List.length_cons, Nat.pow_succ]; grind
theorem val_lt {B : Nat} {l : List Nat} (hB : 0 < B) (h : Dg B l) : val B l < B ^ l.length := by
  induction l with
  | nil => simp [val]
  | cons x l ih =>
    have h1 := ih h.tail
    have h2 := h.head
    rw [val, List.length_cons, Nat.pow_succ]
    have := Nat.mul_le_mul_left B (Nat.succ_le_of_lt h1)
    rw [Nat.succ_eq_add_one, Nat.mul_add] at this
    grind
theorem val_snoc (B : Nat) (l : List Nat) (v : Nat) : val B (l ++ [v]) = val B l + B ^ l.length * v := by rw [val_append]; simp [val]
theorem val_take_succ (B : Nat) (l : List Nat) (i : Nat) : val B (l.take (i + 1)) = val B (l.take i) + B ^ i * gd l i := by
  rcases Nat.lt_or_ge i l.length with hi | hi
  · rw [take_succ l i hi, val_snoc, List.length_take, Nat.min_eq_left (Nat.le_of_lt hi)]
  · rw [gd_ge hi, List.take_of_length_le (by omega), List.take_of_length_le hi, Nat.mul_zero, Nat.add_zero]
theorem val_split (B : Nat) (l : List Nat) (i : Nat) (h : i ≤ l.length) : val B l = val B (l.take i) + B ^ i * val B (l.drop i) := by
  have := val_append B (l.take i) (l.drop i)
  rw [List.take_append_drop, List.length_take, Nat.min_eq_left h] at this
  exact this
theorem val_drop (B : Nat) (l : List Nat) (i : Nat) (h : i < l.length) : val B (l.drop i) = gd l i + B * val B (l.drop (i + 1)) := by
  rw [drop_cons l i h, val]

/-! ### a number's digits -/
def dgf (B : Nat) : Nat → Nat → List Nat
  | 0, _ => []
  | f + 1, n => if n = 0 then [] else n % B :: dgf B f (n / B)
def dg (B n : Nat) : List Nat := dgf B n n
theorem dgf_more (B : Nat) (hB : 2 ≤ B) : ∀ f n, n ≤ f → dgf B f n = dgf B n n := by
  intro f
  induction f using Nat.strongRecOn with
  | _ f ih =>
    intro n hn
    cases f with
    | zero => have : n = 0 := by omega
              subst this; rfl
    | succ f =>
      cases n with
      | zero => simp [dgf]
      | succ n =>
        have hlt : (n + 1) / B ≤ n := Nat.le_of_lt_succ (Nat.div_lt_self (Nat.succ_pos n) hB)
        rw [dgf, dgf, if_neg (by omega), if_neg (by omega), ih f (by omega) _ (Nat.le_trans hlt (by omega)), ih n (by omega) _ hlt]
theorem dg_zero (B : Nat) : dg B 0 = [] := rfl
theorem dg_pos {B n : Nat} (hB : 2 ≤ B) (h : 0 < n) : dg B n = n % B :: dg B (n / B) := by
  cases n with
  | zero => omega
  | succ n =>
    have hlt : (n + 1) / B ≤ n := Nat.le_of_lt_succ (Nat.div_lt_self (Nat.succ_pos n) hB)
    unfold dg
    rw [dgf, if_neg (by omega), dgf_more B hB _ _ hlt]
theorem val_dg {B : Nat} (hB : 2 ≤ B) (n : Nat) : val B (dg B n) = n := by
  induction n using Nat.strongRecOn with
  | _ n ih =>
    rcases Nat.eq_zero_or_pos n with rfl | hn
    · rfl
    · rw [dg_pos hB hn, val, ih _ (Nat.div_lt_self hn hB)]
      exact Nat.mod_add_div n B
theorem Dg_dg {B : Nat} (hB : 2 ≤ B) (n : Nat) : Dg B (dg B n) := by
  induction n using Nat.strongRecOn with
  | _ n ih =>
    rcases Nat.eq_zero_or_pos n with rfl | hn
    · exact Dg.nil _
    · rw [dg_pos hB hn]
      exact Dg.cons (Nat.mod_lt _ (by omega)) (ih _ (Nat.div_lt_self hn hB))
/-- Without noughts at the end. -/
def trim : List Nat → List Nat
  | [] => []
  | x :: l => if trim l = [] ∧ x = 0 then [] else x :: trim l
theorem dg_val {B : Nat} (hB : 2 ≤ B) {l : List Nat} (h : Dg B l) : dg B (val B l) = trim l := by
  induction l with
  | nil => rfl
  | cons x l ih =>
    have hx := h.head
    have ih := ih h.tail
    rw [val, trim]
    by_cases hz : x + B * val B l = 0
    · have h1 : x = 0 := by omega
      have h2 : val B l = 0 := by
        have : B * val B l = 0 := by omega
        rcases Nat.mul_eq_zero.mp this with h | h
        · omega
        · exact h
      rw [hz, if_pos ⟨by rw [← ih, h2]; rfl, h1⟩]; rfl
    · rw [dg_pos hB (by omega), if_neg, Nat.add_mul_mod_self_left, Nat.mod_eq_of_lt hx, Nat.add_mul_div_left _ _ (by omega), Nat.div_eq_of_lt hx, Nat.zero_add, ih]
      rintro ⟨h1, h2⟩
      rw [← ih] at h1
      have : val B l = 0 := by
        have := val_dg hB (val B l)
        rw [h1] at this
        exact this.symm
      rw [this, h2] at hz
      simp at hz
theorem trim_snoc_pos (l : List Nat) (x : Nat) (hx : x ≠ 0) : trim (l ++ [x]) = l ++ [x] := by
  induction l with
  | nil => simp [trim, hx]
  | cons y l ih => rw [List.cons_append, trim, ih, if_neg]; simp
theorem trim_snoc_zero (l : List Nat) : trim (l ++ [0]) = trim l := by
  induction l with
  | nil => simp [trim]
  | cons y l ih => rw [List.cons_append, trim, ih, trim]
theorem trim_take {l : List Nat} {n : Nat} (hn : n ≤ l.length) (h : n = 0 ∨ gd l (n - 1) ≠ 0) (hz : ∀ i, n ≤ i → gd l i = 0) : trim l = l.take n := by
  obtain ⟨d, hd⟩ : ∃ d, l.length = n + d := ⟨l.length - n, by omega⟩
  induction d generalizing l with
  | zero =>
    rw [List.take_of_length_le (by omega)]
    rcases List.eq_nil_or_concat l with rfl | ⟨l', x, rfl⟩
    · rfl
    · rw [List.concat_eq_append] at *
      refine trim_snoc_pos _ _ ?_
      simp only [List.length_append, List.length_cons, List.length_nil] at hd
      rcases h with h | h
      · omega
      · have h1 := gd_append_right l' [x] 0
        rw [gd_cons_zero] at h1
        rw [← h1]
        have : n - 1 = l'.length + 0 := by omega
        rw [← this]; exact h
  | succ d ih =>
    rcases List.eq_nil_or_concat l with rfl | ⟨l', x, rfl⟩
    · simp at hd
    · rw [List.concat_eq_append] at *
      simp only [List.length_append, List.length_cons, List.length_nil] at hd
      have hx : x = 0 := by
        have h1 := gd_append_right l' [x] 0
        rw [gd_cons_zero] at h1
        rw [← h1]
        exact hz _ (by omega)
      subst hx
      rw [trim_snoc_zero, List.take_append_of_le_length (by omega)]
      refine ih (by omega) ?_ ?_ (by omega)
      · rcases h with h | h
        · exact .inl h
        · rcases Nat.eq_zero_or_pos n with h0 | h0
          · exact .inl h0
          · exact .inr (by rw [gd_append_left _ _ _ (by omega)] at h; exact h)
      · intro i hi
        rcases Nat.lt_or_ge i l'.length with h1 | h1
        · have := hz i hi
          rw [gd_append_left _ _ _ h1] at this
          exact this
        · exact gd_ge h1
/-! ### how many digits -/
theorem dg_len {B : Nat} (hB : 2 ≤ B) (n k : Nat) : (dg B n).length ≤ k ↔ n < B ^ k := by
  induction k generalizing n with
  | zero =>
    rcases Nat.eq_zero_or_pos n with rfl | hn
    · simp [dg_zero]
    · rw [dg_pos hB hn]; simp; omega
  | succ k ih =>
    rcases Nat.eq_zero_or_pos n with rfl | hn
    · simp [dg_zero]; exact Nat.pow_pos (by omega)
    · rw [dg_pos hB hn, List.length_cons, Nat.add_le_add_iff_right, ih, Nat.pow_succ, Nat.div_lt_iff_lt_mul (by omega)]
theorem dg_lt {B : Nat} (hB : 2 ≤ B) (n : Nat) : n < B ^ (dg B n).length := (dg_len hB n _).mp (Nat.le_refl _)
theorem dg_ge {B : Nat} (hB : 2 ≤ B) {n : Nat} (hn : 0 < n) : B ^ ((dg B n).length - 1) ≤ n := by
  rcases Nat.lt_or_ge n (B ^ ((dg B n).length - 1)) with h | h
  · have := (dg_len hB n _).mpr h
    have h0 : 0 < (dg B n).length := by rw [dg_pos hB hn]; simp
    omega
  · exact h
theorem dg_inj {B : Nat} (hB : 2 ≤ B) {m n : Nat} (h : dg B m = dg B n) : m = n := by rw [← val_dg hB m, h, val_dg hB]
theorem dg_last {B : Nat} (hB : 2 ≤ B) {n : Nat} (hn : 0 < n) : 0 < gd (dg B n) ((dg B n).length - 1) := by
  rcases Nat.eq_zero_or_pos (gd (dg B n) ((dg B n).length - 1)) with h | h
  · have h0 : 0 < (dg B n).length := by rw [dg_pos hB hn]; simp
    have h1 := val_split B (dg B n) ((dg B n).length - 1) (by omega)
    rw [val_drop B _ _ (by omega), h, List.drop_of_length_le (by omega), val_dg hB] at h1
    have h2 := val_lt (B := B) (by omega) ((Dg_dg hB n).take ((dg B n).length - 1))
    rw [List.length_take, Nat.min_eq_left (by omega)] at h2
    have h3 := dg_ge hB hn
    simp only [val, Nat.mul_zero, Nat.add_zero] at h1
    omega
  · exact h
/-- From the top: where two lists of one length first differ, the lesser digit is the lesser number's. -/
theorem val_cmp {B : Nat} (hB : 0 < B) {a b : List Nat} (ha : Dg B a) (hb : Dg B b) (hl : a.length = b.length) {i : Nat} (hi : i < a.length) (he : a.drop (i + 1) = b.drop (i + 1)) (h : gd a i < gd b i) : val B a < val B b := by
  have h1 := val_split B a i (by omega)
  have h2 := val_split B b i (by omega)
  rw [val_drop B a i hi] at h1
  rw [val_drop B b i (by omega), ← he] at h2
  have h3 := val_lt hB (ha.take i)
  rw [List.length_take, Nat.min_eq_left (by omega)] at h3
  have h4 := Nat.mul_le_mul_left (B ^ i) (Nat.succ_le_of_lt h)
  rw [Nat.succ_eq_add_one, Nat.mul_add] at h4
  grind
theorem len_cmp {B : Nat} (hB : 2 ≤ B) {m n : Nat} (h : (dg B m).length < (dg B n).length) : m < n := by
  have h1 := dg_lt hB m
  have h2 : 0 < n := by
    rcases Nat.eq_zero_or_pos n with rfl | hn
    · simp [dg_zero] at h
    · exact hn
  exact Nat.lt_of_lt_of_le h1 (Nat.le_trans (Nat.pow_le_pow_right (by omega) (by omega)) (dg_ge hB h2))

/-! ### machine numbers -/
theorem wrap_id {x : Int} (h0 : -9223372036854775808 ≤ x) (h1 : x ≤ 9223372036854775807) : wrap64 x = x := by unfold wrap64; omega
theorem wrap_nat {a : Nat} (h : a ≤ 4611686018427387904) : wrap64 (a : Int) = (a : Int) := by rw [wrap_id] <;> omega
theorem wrap_add {a b : Nat} (h : a + b ≤ 4611686018427387904) : wrap64 ((a : Int) + (b : Int)) = ((a + b : Nat) : Int) := by rw [wrap_id] <;> omega
theorem wrap_mul {a b : Nat} (h : a * b ≤ 4611686018427387904) : wrap64 ((a : Int) * (b : Int)) = ((a * b : Nat) : Int) := by rw [show (a : Int) * (b : Int) = ((a * b : Nat) : Int) from (Int.natCast_mul a b).symm, wrap_nat h]
theorem tdiv10 (n : Nat) : Int.tdiv (n : Int) 10 = ((n / 10 : Nat) : Int) := by rw [Int.tdiv_eq_ediv_of_nonneg (by omega)]; omega
theorem tmod10 (n : Nat) : Int.tmod (n : Int) 10 = ((n % 10 : Nat) : Int) := by rw [Int.tmod_eq_emod_of_nonneg (by omega)]; omega
theorem nl_snoc (l : List Nat) (v : Nat) : nl l ++ [(v : Int)] = nl (l ++ [v]) := by rw [nl_append]; rfl
theorem u64_def (x : Int) : IntKind.u64.wrap x = x % 18446744073709551616 := by
  unfold IntKind.wrap
  simp [IntKind.signed, IntKind.bits]
theorem u64_id {x : Int} (h0 : 0 ≤ x) (h1 : x < 18446744073709551616) : IntKind.u64.wrap x = x := by rw [u64_def]; omega
end Go.Proofs.Ytcepdndhkidehaa.M
end
section
namespace Go.Proofs.Ytcepdndhkidehaa.PA
open Go.RowKit Go.Proofs.YtcepdndhkidehaaW.PrintWords Go.Proofs.YtcepdndhkidehaaW.PrintLast Go.Proofs.YtcepdndhkidehaaW.PrintMore
attribute [local go_sem] max2_int min2_int max_two min_two max_three min_three max_four min_four   -- for this text's walks alone
set_option linter.unusedVariables false
set_option linter.unusedSimpArgs false

/-! ### numeraryref02_at: function 49 -/
def numeraryref02_at.f (l0 : List Int) (a1 : Int) : Option (Int) := if a1 < (l0.length : Int) then (if 0 ≤ a1 then (some (rd l0 a1)) else (none)) else (some 0)
set_option maxHeartbeats 8000000 in
set_option maxRecDepth 100000 in
theorem numeraryref02_at.calls (A0 : Option Addr) (c0 : Nat) (l0 : List Int) (a1 : Int) (r : Int) (w : World) (hr0 : Kd.C (Kd.int .i64) w A0 l0.length l0) (hc0 : l0.length ≤ c0) (h : numeraryref02_at.f l0 a1 = some r) :
    Calls Try.prog 49 #[.slice A0 l0.length c0, .int .i64 a1] w fun e w' => e = .returned (.int .i64 r) ∧ Drawn0 w w' := by
  have HR0 := Aside0.mk hr0
  have HC0 := Aside0.mk hc0
  clear hr0 hc0
  have H : (if a1 < (l0.length : Int) then (if 0 ≤ a1 then (some (rd l0 a1)) else (none)) else (some 0)) = some r := h
  clear h
  by_cases c3 : a1 < (l0.length : Int)
  rotate_left
  · rw [if_neg c3] at H
    have c3b0 : decide (a1 < (l0.length : Int)) = false := decide_eq_false c3
    clear c3
    obtain rfl := Option.some.inj H
    go_enter Try.func49, Try.ntmps49
    go_wp2
    go_ret
    exact ⟨by first | rfl | (simp; done) | (simp [*]; done), by repeat (first | exact Drawn0.refl _ | apply Drawn0.step)⟩

  rw [if_pos c3] at H
  have c3b0 : decide (a1 < (l0.length : Int)) = true := decide_eq_true c3
  clear c3
  by_cases c4 : 0 ≤ a1
  rotate_left
  · rw [if_neg c4] at H
    exact absurd H (by simp)
  rw [if_pos c4] at H
  have c4b0 : decide (0 ≤ a1) = true := decide_eq_true c4
  clear c4
  obtain rfl := Option.some.inj H
  have p122 : 0 ≤ (a1 : Int) := of_decide_eq_true (by assumption)
  have q122 : a1 < (l0.length : Int) := of_decide_eq_true (by assumption)
  obtain ⟨ad122, e122, hx122_0⟩ := Kd.at_int HR0.out a1 p122 q122
  cases e122
  replace p122 := eq_true p122
  replace q122 := eq_true q122
  go_enter Try.func49, Try.ntmps49
  go_wp2
  go_ret
  exact ⟨by first | rfl | (simp; done) | (simp [*]; done), by repeat (first | exact Drawn0.refl _ | apply Drawn0.step)⟩
end Go.Proofs.Ytcepdndhkidehaa.PA
end
section
namespace Go.Proofs.Ytcepdndhkidehaa.PA
open Go.RowKit Go.Proofs.YtcepdndhkidehaaW.PrintWords Go.Proofs.YtcepdndhkidehaaW.PrintLast Go.Proofs.YtcepdndhkidehaaW.PrintMore
attribute [local go_sem] max2_int min2_int max_two min_two max_three min_three max_four min_four   -- for this text's walks alone
set_option linter.unusedVariables false
set_option linter.unusedSimpArgs false

/-! ### numeraryref02_trim: function 50 -/
def numeraryref02_trim.l0 : Nat → List Int → Int → Option (List Int)
  | 0, _, _ => none
  | k + 1, x0, x3 => if x3 > 0 then (if 0 ≤ (wrap64 (x3 - 1)) then (if (wrap64 (x3 - 1)) < (x0.length : Int) then (if (rd x0 (wrap64 (x3 - 1))) = 0 then (numeraryref02_trim.l0 k x0 (wrap64 (x3 - 1))) else (if 0 ≤ x3 then (if x3 ≤ (x0.length : Int) then (some (x0.take (x3 : Int).toNat)) else (none)) else (none))) else (none)) else (none)) else (if 0 ≤ x3 then (if x3 ≤ (x0.length : Int) then (some (x0.take (x3 : Int).toNat)) else (none)) else (none))
def numeraryref02_trim.f (k : Nat) (l0 : List Int) : Option (List Int) := numeraryref02_trim.l0 k l0 (l0.length : Int)
theorem numeraryref02_trim.mono_l : ∀ k, (∀ y0 y1, LeO (numeraryref02_trim.l0 k y0 y1) (numeraryref02_trim.l0 (k + 1) y0 y1))
  | 0 => fun _ _ r h => by simp [numeraryref02_trim.l0] at h
  | k + 1 => by
    have ih0 := numeraryref02_trim.mono_l k
    intro y0 y1
    unfold numeraryref02_trim.l0
    repeat' first
    | (with_reducible exact ih0 _ _)
    | (with_reducible exact LeO.refl _)
    | (with_reducible exact LeO.none _)
    | (with_reducible refine LeO.ite ?_ ?_)
    | (with_reducible refine LeO.bind ?_ (fun _ => ?_))
    | exact ih0 _ _
    | exact LeO.none _
    | refine LeO.ite ?_ ?_
    | refine LeO.bind ?_ (fun _ => ?_)
theorem numeraryref02_trim.mono : ∀ a0 k, LeO (numeraryref02_trim.f k a0) (numeraryref02_trim.f (k + 1) a0) := by
  intro a0 k
  have ih0 := numeraryref02_trim.mono_l k
  unfold numeraryref02_trim.f
  repeat' first
      | (with_reducible exact ih0 _ _)
      | (with_reducible exact LeO.refl _)
      | (with_reducible exact LeO.none _)
      | (with_reducible refine LeO.ite ?_ ?_)
      | (with_reducible refine LeO.bind ?_ (fun _ => ?_))
set_option maxHeartbeats 8000000 in
set_option maxRecDepth 100000 in
theorem numeraryref02_trim.calls (k : Nat) (P0_ : Nat → Prop) (u9000_ : Value) (l0 : List Int) (r : List Int) (w0 w : World) (hB : Below w0.heap.size w0 w) (ho0 : Kd.R (Kd.int .i64) 3 w w0.heap.size P0_ u9000_ l0) (h : numeraryref02_trim.f k l0 = some r) :
    Calls Try.prog 50 #[u9000_] w fun e w' => ∃ v0_ : Value, e = .returned (v0_) ∧ Kd.R (Kd.int .i64) 3 w' w0.heap.size (fun k_ => (P0_ k_ ∨ w.heap.size ≤ k_)) v0_ r ∧ Below w0.heap.size w0 w' ∧ Kept w w' (fun k_ => P0_ k_) := by
  have HO0 := Aside0.mk (show Kd.R (Kd.int .i64) 3 w w0.heap.size (fun k_ => (P0_ k_ ∨ w.heap.size ≤ k_)) u9000_ l0 from Kd.R_mono ho0 (fun k_ hk => (.inl hk)))
  have HK := Aside0.mk (Kept.refl w (fun k_ => P0_ k_))
  have HW0 := Aside0.mk hB.size
  have HB := Aside0.mk hB
  clear hB
  have H : (numeraryref02_trim.l0 k l0 (l0.length : Int)) = some r := h
  clear h
  have H' := Aside0.mk H
  clear H
  obtain ⟨Ao2, co2, eo2⟩ := Kd.R_slice HO0.out
  subst eo2
  go_enter Try.func50, Try.ntmps50
  go_wp2
  (try simp only [Act.put, List.setIfInBounds_toArray, List.set_cons_zero, List.set_cons_succ])
  go_loopg [3] k (fun kq v3 w' => ∃ (x3_1 : Int), v3 = .int .i64 x3_1 ∧ Aside0 (numeraryref02_trim.l0 kq l0 x3_1 = some r) ∧ Aside0 (kq ≤ k) ∧ Aside0 (Kd.R (Kd.int .i64) 3 w' w0.heap.size (fun k_ => (P0_ k_ ∨ w.heap.size ≤ k_)) (.slice Ao2 l0.length co2) l0) ∧ Aside0 (Kept w w' (fun k_ => P0_ k_)) ∧ Aside0 (Below w0.heap.size w0 w'))
  case atStart => exact ⟨((l0.length : Int)), rfl, H', ⟨Nat.le_refl _⟩, ⟨by (with_reducible repeat (first | apply Kd.R_alloc | apply Kd.R_drewN | apply Kd.R_drew)); exact HO0.out⟩, ⟨by repeat (first | (with_reducible first | exact HK.out | apply Kept.alloc | apply Kept.drewN | apply Kept.drew) | exact HK.out)⟩, ⟨by repeat (first | (with_reducible first | exact HB.out | apply below_alloc | apply pw_below_drewN | apply below_drew1) | exact HB.out)⟩⟩
  case round =>
    clear H'
    try clear p2
    obtain ⟨x3_1, rfl, HA, HK1, HO_0, HK, HB⟩ := hrel
    cases gk with
    | zero => exact absurd HA.out (by simp [numeraryref02_trim.l0])
    | succ k1 =>
      have H := HA.out
      clear HA
      simp only [numeraryref02_trim.l0] at H
      by_cases c3 : x3_1 > 0
      rotate_left
      · rw [if_neg c3] at H
        have c3b0 : decide (0 < x3_1) = false := decide_eq_false c3
        clear c3
        by_cases c11 : 0 ≤ x3_1
        rotate_left
        · rw [if_neg c11] at H
          exact absurd H (by simp)

        rw [if_pos c11] at H
        have c11b0 := eq_true c11
        have c11b1 : decide (0 ≤ x3_1) = true := decide_eq_true c11
        clear c11
        by_cases c12 : x3_1 ≤ (l0.length : Int)
        rotate_left
        · rw [if_neg c12] at H
          exact absurd H (by simp)
        rw [if_pos c12] at H
        have c12b0 := eq_true c12
        have c12b1 : decide (x3_1 ≤ (l0.length : Int)) = true := decide_eq_true c12
        clear c12
        obtain ⟨y127, hy127⟩ : ∃ y_ : List Int, y_ = (l0.take (x3_1 : Int).toNat) := ⟨_, rfl⟩
        replace H : (some y127) = some r := by first | (rw [hy127]; with_reducible exact H) | (have H2_ := (Option.bind_some _ _).symm.trans H; rw [hy127]; with_reducible exact H2_) | (have H2_ := (Option.bind_some _ _).symm.trans H; with_reducible exact H2_) | with_reducible exact H | (rw [hy127]; exact H) | exact H
        have Ny127 := Aside0.mk hy127
        clear hy127
        obtain rfl := Option.some.inj H
        have q13 : (x3_1 : Int) ≤ ((l0.length : Int) : Int) := of_decide_eq_true (by assumption)
        obtain ⟨i013, hi013, _, hsz13, _⟩ := info_parts info3
        have hcut13 := cut_to (P := Try.prog) 28 3 .i64 Try.underlying28 hi013 Ao2 l0.length co2 x3_1 (of_decide_eq_true (by assumption)) q13 (Kd.R_reads' HO_0.out).2.1
        have hr13 := Kd.R_take (m := (x3_1 : Int).toNat) HO_0.out (by omega)
        have hy13 : y127.length = (x3_1 : Int).toNat := (by rw [Ny127.out, List.length_take]; omega)
        rw [← Ny127.out] at hr13
        rw [← hy13] at hr13 hcut13
        clear hy13 hi013 hsz13 HO_0
        have HO129 := Aside0.mk hr13
        clear hr13
        replace q13 := eq_true q13
        go_wp2
        go_ret
        exact ⟨_, rfl, by (with_reducible repeat (first | apply Kd.R_alloc | apply Kd.R_drewN | apply Kd.R_drew)); exact HO129.out, by repeat (first | (with_reducible first | exact HB.out | apply below_alloc | apply pw_below_drewN | apply below_drew1) | exact HB.out), by repeat (first | (with_reducible first | exact HK.out | apply Kept.alloc | apply Kept.drewN | apply Kept.drew) | exact HK.out)⟩
      rw [if_pos c3] at H
      have c3b0 : decide (0 < x3_1) = true := decide_eq_true c3
      clear c3
      obtain ⟨ji4, hji4⟩ : ∃ j_ : Int, (wrap64 (x3_1 - 1)) = j_ := ⟨_, rfl⟩
      replace H : (if 0 ≤ (ji4) then (if (ji4) < (l0.length : Int) then (if (rd l0 (ji4)) = 0 then (numeraryref02_trim.l0 k1 l0 ji4) else (if 0 ≤ x3_1 then (if x3_1 ≤ (l0.length : Int) then (some (l0.take (x3_1 : Int).toNat)) else (none)) else (none))) else (none)) else (none)) = some r := by first | (rw [hji4] at H; exact H) | (simp only [hji4] at H ⊢; exact H)
      have hji4w : (IntKind.i64.wrap (x3_1 - 1)) = ji4 := (i64_w _).trans hji4
      by_cases c5 : 0 ≤ (ji4)
      rotate_left
      · rw [if_neg c5] at H
        exact absurd H (by simp)
      rw [if_pos c5] at H
      have c5b0 : decide (0 ≤ (ji4)) = true := decide_eq_true c5
      clear c5
      by_cases c6 : (ji4) < (l0.length : Int)
      rotate_left
      · rw [if_neg c6] at H
        exact absurd H (by simp)
      rw [if_pos c6] at H
      have c6b0 : decide ((ji4) < (l0.length : Int)) = true := decide_eq_true c6
      clear c6
      by_cases c7 : (rd l0 (ji4)) = 0
      · rw [if_pos c7] at H
        have c7b0 : ((rd l0 (ji4)) == 0) = true := beq_iff_eq.mpr c7
        have c7b1 : ((rd l0 (ji4)) != 0) = false := bne_eq_false_iff_eq.mpr c7
        clear c7
        have H' := Aside0.mk H
        clear H
        have p123 : 0 ≤ ((ji4) : Int) := of_decide_eq_true (by assumption)
        have q123 : (ji4) < (l0.length : Int) := of_decide_eq_true (by assumption)
        obtain ⟨ad123, e123, hx123_0⟩ := Kd.at_int (Kd.R_reads' HO_0.out).2.2 (ji4) p123 q123
        cases e123
        replace p123 := eq_true p123
        replace q123 := eq_true q123
        go_wp2
        go_roundg k1
        case measure => have := HK1.out; omega
        case rel => exact ⟨(ji4), (by first | rfl | (simp; done) | (simp only [← hji4] <;> (first | rfl | simp)) | (simp [*]; done)), H', ⟨by have := HK1.out; omega⟩, ⟨by (with_reducible repeat (first | apply Kd.R_alloc | apply Kd.R_drewN | apply Kd.R_drew)); exact HO_0.out⟩, ⟨by repeat (first | (with_reducible first | exact HK.out | apply Kept.alloc | apply Kept.drewN | apply Kept.drew) | exact HK.out)⟩, ⟨by repeat (first | (with_reducible first | exact HB.out | apply below_alloc | apply pw_below_drewN | apply below_drew1) | exact HB.out)⟩⟩
      rw [if_neg c7] at H
      have c7b0 : ((rd l0 (ji4)) == 0) = false := beq_eq_false_iff_ne.mpr c7
      have c7b1 : ((rd l0 (ji4)) != 0) = true := bne_iff_ne.mpr c7
      by_cases c8 : 0 ≤ x3_1
      rotate_left
      · rw [if_neg c8] at H
        exact absurd H (by simp)
      rw [if_pos c8] at H
      have c8b0 := eq_true c8
      have c8b1 : decide (0 ≤ x3_1) = true := decide_eq_true c8
      clear c8
      by_cases c9 : x3_1 ≤ (l0.length : Int)
      rotate_left
      · rw [if_neg c9] at H
        exact absurd H (by simp)
      rw [if_pos c9] at H
      have c9b0 := eq_true c9
      have c9b1 : decide (x3_1 ≤ (l0.length : Int)) = true := decide_eq_true c9
      clear c9
      obtain ⟨y124, hy124⟩ : ∃ y_ : List Int, y_ = (l0.take (x3_1 : Int).toNat) := ⟨_, rfl⟩
      replace H : (some y124) = some r := by first | (rw [hy124]; with_reducible exact H) | (have H2_ := (Option.bind_some _ _).symm.trans H; rw [hy124]; with_reducible exact H2_) | (have H2_ := (Option.bind_some _ _).symm.trans H; with_reducible exact H2_) | with_reducible exact H | (rw [hy124]; exact H) | exact H
      have Ny124 := Aside0.mk hy124
      clear hy124
      obtain rfl := Option.some.inj H
      have p123 : 0 ≤ ((ji4) : Int) := of_decide_eq_true (by assumption)
      have q123 : (ji4) < (l0.length : Int) := of_decide_eq_true (by assumption)
      obtain ⟨ad123, e123, hx123_0⟩ := Kd.at_int (Kd.R_reads' HO_0.out).2.2 (ji4) p123 q123
      cases e123
      replace p123 := eq_true p123
      replace q123 := eq_true q123
      have q10 : (x3_1 : Int) ≤ ((l0.length : Int) : Int) := of_decide_eq_true (by assumption)
      obtain ⟨i010, hi010, _, hsz10, _⟩ := info_parts info3
      have hcut10 := cut_to (P := Try.prog) 28 3 .i64 Try.underlying28 hi010 (some ad123) l0.length co2 x3_1 (of_decide_eq_true (by assumption)) q10 (Kd.R_reads' HO_0.out).2.1
      have hr10 := Kd.R_take (m := (x3_1 : Int).toNat) HO_0.out (by omega)
      have hy10 : y124.length = (x3_1 : Int).toNat := (by rw [Ny124.out, List.length_take]; omega)
      rw [← Ny124.out] at hr10
      rw [← hy10] at hr10 hcut10
      clear hy10 hi010 hsz10 HO_0
      have HO126 := Aside0.mk hr10
      clear hr10
      replace q10 := eq_true q10
      go_wp2
      go_ret
      exact ⟨_, by first | rfl | (simp [errW_none, errW_some] <;> rfl) | (simp only [← hji4]; first | rfl | (simp [errW_none, errW_some] <;> rfl)) | (simp [*, errW_none, errW_some] <;> rfl), by (with_reducible repeat (first | apply Kd.R_alloc | apply Kd.R_drewN | apply Kd.R_drew)); exact HO126.out, by repeat (first | (with_reducible first | exact HB.out | apply below_alloc | apply pw_below_drewN | apply below_drew1) | exact HB.out), by repeat (first | (with_reducible first | exact HK.out | apply Kept.alloc | apply Kept.drewN | apply Kept.drew) | exact HK.out)⟩
end Go.Proofs.Ytcepdndhkidehaa.PA
end
