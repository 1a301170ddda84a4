/- Texts that the proof of TimesLaws stands on, part 2. -/
import Derived.Test.YtcepdndhkidehaaCTimesLaws0
import Derived.Test.YtcepdndhkidehaaCTimesLaws1
section
namespace Go.Proofs.Ytcepdndhkidehaa.PA
open Go.RowKit Go.Proofs.YtcepdndhkidehaaW.PrintWords Go.Proofs.YtcepdndhkidehaaW.PrintLast Go.Proofs.YtcepdndhkidehaaW.PrintMore
attribute [local go_sem] max2_int min2_int max_two min_two max_three min_three max_four min_four   -- for this text's walks alone
set_option linter.unusedVariables false
set_option linter.unusedSimpArgs false

/-! ### numerarylaw03_TimesLaws: function 10 -/
def numerarylaw03_TimesLaws.f (k : Nat) (l0 : List Int) (l1 : List Int) (l2 : List Int) : Option (Bool) := (numerarylaw03_few.f l0).bind fun t660 => ((nat_Made.f k t660).bind fun t663 => ((numerarylaw03_few.f l1).bind fun t666 => ((nat_Made.f k t666).bind fun t669 => ((numerarylaw03_few.f l2).bind fun t672 => ((nat_Made.f k t672).bind fun t675 => ((times_Mul.f k t663 t669).bind fun t681 => ((numerarylaw03_wakes.f k).bind fun t685 => (if t685 = true then ((times_Mul.f k t669 t663).bind fun t686 => ((nat_Cmp.f k t681 t686).bind fun t689 => (if t689 = 0 then ((times_Mul.f k t681 t675).bind fun t690 => ((times_Mul.f k t669 t675).bind fun t693 => ((times_Mul.f k t663 t693).bind fun t696 => ((nat_Cmp.f k t690 t696).bind fun t699 => (if t699 = 0 then ((nat_Add.f k t669 t675).bind fun t700 => ((times_Mul.f k t663 t700).bind fun t703 => ((times_Mul.f k t663 t675).bind fun t706 => ((nat_Add.f k t681 t706).bind fun t709 => ((nat_Cmp.f k t703 t709).bind fun t712 => (if t712 = 0 then ((times_Pow.f k t663 ((l0.length : Int) % 4)).bind fun t713 => ((times_Pow.f k t663 2).bind fun t716 => ((times_Mul.f k t713 t716).bind fun t719 => ((times_Pow.f k t663 (((l0.length : Int) % 4) + 2)).bind fun t722 => ((nat_Cmp.f k t719 t722).bind fun t725 => (if t725 = 0 then ((nat_Nat_Bits.f t681).bind fun t726 => ((nat_Nat_Bits.f t663).bind fun t727 => ((nat_Nat_Bits.f t669).bind fun t728 => (some (decide (t726 ≤ (wrap64 (t727 + t728)))))))) else (some false))))))) else (some false))))))) else (some false)))))) else (some false)))) else (some false)))))))))
theorem numerarylaw03_TimesLaws.mono : ∀ a0 a1 a2 k, LeO (numerarylaw03_TimesLaws.f k a0 a1 a2) (numerarylaw03_TimesLaws.f (k + 1) a0 a1 a2) := by
  intro a0 a1 a2 k
  unfold numerarylaw03_TimesLaws.f
  repeat' first
      | (with_reducible exact nat_Add.mono _ _ _)
      | (with_reducible exact nat_Cmp.mono _ _ _)
      | (with_reducible exact nat_Made.mono _ _)
      | (with_reducible exact numerarylaw03_wakes.mono _)
      | (with_reducible exact times_Mul.mono _ _ _)
      | (with_reducible exact times_Pow.mono _ _ _)
      | (with_reducible exact LeO.refl _)
      | (with_reducible exact LeO.none _)
      | (with_reducible refine LeO.ite ?_ ?_)
      | (with_reducible refine LeO.bind ?_ (fun _ => ?_))
      | exact nat_Add.mono _ _ _
      | exact nat_Cmp.mono _ _ _
      | exact nat_Made.mono _ _
      | exact numerarylaw03_wakes.mono _
      | exact times_Mul.mono _ _ _
      | exact times_Pow.mono _ _ _
      | exact LeO.none _
      | refine LeO.ite ?_ ?_
      | refine LeO.bind ?_ (fun _ => ?_)
def numerarylaw03_TimesLaws.T4 : Bool × List (List Nat × List Nat) := (true, [([], []), ([0, 0], [0]), ([1], [1]), ([1], [1]), ([1], [1]), ([3, 4, 1, 1], [1, 3, 4]), ([2, 5, 5, 1], [1, 2, 5]), ([6, 1], [1, 6]), ([1, 7], [1, 7]), ([8, 6], [8]), ([9], [9]), ([9], [9]), ([10, 11, 9, 9], [9, 10, 11]), ([9], [9]), ([9], [9]), ([9], [9]), ([14, 15, 12, 9], [9, 14, 15]), ([13, 16, 16, 9], [9, 13, 16]), ([12, 17, 17, 9], [9, 12, 17]), ([18, 9], [9, 18]), ([9, 19], [9, 19]), ([20, 18], [20]), ([21], [21]), ([21], [21]), ([21], [21]), ([23, 24, 21, 21], [21, 23, 24]), ([22, 25, 25, 21], [21, 22, 25]), ([21], [21]), ([21], [21]), ([21], [21]), ([28, 29, 26, 21], [21, 28, 29]), ([27, 30, 30, 21], [21, 27, 30]), ([26, 31, 31, 21], [21, 26, 31]), ([32, 21], [21, 32]), ([21, 33], [21, 33]), ([34, 32], [34]), ([35], [35]), ([35], [35]), ([36, 37, 35, 35], [35, 36, 37]), ([35], [35]), ([39, 38, 35], [35, 39]), ([38, 40, 40, 35], [35, 38, 40]), ([35], [35]), ([35], [35]), ([43, 35], [35, 43]), ([42, 44, 41, 35], [35, 42, 44]), ([41, 45, 45, 35], [35, 41, 45]), ([46, 35], [35, 46]), ([35, 47], [35, 47]), ([48, 46], [48]), ([49], [49]), ([50, 49, 49], [49, 50]), ([49], [49]), ([52, 51, 49], [49, 52]), ([49], [49]), ([54, 53, 49], [49, 54]), ([53, 55, 49], [49, 53, 55]), ([51, 56, 49], [49, 51, 56]), ([49, 57], [49, 57]), ([58, 55, 0, 1, 2, 3, 4, 5, 6, 7, 8, 9, 10, 11, 12, 13, 14, 15, 16, 17, 18, 19, 20, 21, 22, 23, 24, 25, 26, 27, 28, 29, 30, 31, 32, 33, 34, 35, 36, 37, 38, 39, 40, 41, 42, 43, 44, 45, 46, 47, 48, 49, 50, 51, 52, 53, 54, 55, 56, 57, 58], [58])])
def numerarylaw03_TimesLaws.B4 : List Nat := [0, 1, 3, 3, 3, 27, 63, 127, 255, 511, 1023, 1023, 4095, 1023, 1023, 1023, 57343, 131071, 262143, 524287, 1048575, 2097151, 4194303, 4194303, 4194303, 29360127, 67108863, 4194303, 4194303, 4194303, 939524095, 2147483647, 4294967295, 8589934591, 17179869183, 34359738367, 68719476735, 68719476735, 274877906943, 68719476735, 1099511627775, 2199023255551, 68719476735, 68719476735, 8864812498943, 35184372088831, 70368744177663, 140737488355327, 281474976710655, 562949953421311, 1125899906842623, 2251799813685247, 1125899906842623, 9007199254740991, 1125899906842623, 36028797018963967, 72057594037927935, 144115188075855871, 288230376151711743, 576460752303423487]
theorem numerarylaw03_TimesLaws.tab4 : rtab .any (opsOf Try.f10 4) = numerarylaw03_TimesLaws.T4 := by kernel_rfl
theorem numerarylaw03_TimesLaws.bits4 : waitsOk numerarylaw03_TimesLaws.T4.2 numerarylaw03_TimesLaws.B4 = true := by kernel_rfl
set_option maxHeartbeats 8000000 in
set_option maxRecDepth 100000 in
theorem numerarylaw03_TimesLaws.calls (k : Nat) (A0 : Option Addr) (c0 : Nat) (l0 : List Int) (A1 : Option Addr) (c1 : Nat) (l1 : List Int) (A2 : Option Addr) (c2 : Nat) (l2 : List Int) (r : Bool) (w : World) (hr0 : Kd.C (Kd.int .u32) w A0 l0.length l0) (hc0 : l0.length ≤ c0) (hr1 : Kd.C (Kd.int .u32) w A1 l1.length l1) (hc1 : l1.length ≤ c1) (hr2 : Kd.C (Kd.int .u32) w A2 l2.length l2) (hc2 : l2.length ≤ c2) (h : numerarylaw03_TimesLaws.f k l0 l1 l2 = some r) (hr_ : r = true) :
    Calls Try.prog 10 #[.slice A0 l0.length c0, .slice A1 l1.length c1, .slice A2 l2.length c2] w fun e w' => e = .returned (.bool r) ∧ Below w.heap.size w w' := by
  have HR_ := Aside0.mk hr_
  clear hr_
  have hu25 := Try.underlying25
  have HR0 := Aside0.mk hr0
  have HC0 := Aside0.mk hc0
  clear hr0 hc0
  have HR1 := Aside0.mk hr1
  have HC1 := Aside0.mk hc1
  clear hr1 hc1
  have HR2 := Aside0.mk hr2
  have HC2 := Aside0.mk hc2
  clear hr2 hc2
  have HB := Aside0.mk (Below.refl w.heap.size w)
  have H : ((numerarylaw03_few.f l0).bind fun t660 => ((nat_Made.f k t660).bind fun t663 => ((numerarylaw03_few.f l1).bind fun t666 => ((nat_Made.f k t666).bind fun t669 => ((numerarylaw03_few.f l2).bind fun t672 => ((nat_Made.f k t672).bind fun t675 => ((times_Mul.f k t663 t669).bind fun t681 => ((numerarylaw03_wakes.f k).bind fun t685 => (if t685 = true then ((times_Mul.f k t669 t663).bind fun t686 => ((nat_Cmp.f k t681 t686).bind fun t689 => (if t689 = 0 then ((times_Mul.f k t681 t675).bind fun t690 => ((times_Mul.f k t669 t675).bind fun t693 => ((times_Mul.f k t663 t693).bind fun t696 => ((nat_Cmp.f k t690 t696).bind fun t699 => (if t699 = 0 then ((nat_Add.f k t669 t675).bind fun t700 => ((times_Mul.f k t663 t700).bind fun t703 => ((times_Mul.f k t663 t675).bind fun t706 => ((nat_Add.f k t681 t706).bind fun t709 => ((nat_Cmp.f k t703 t709).bind fun t712 => (if t712 = 0 then ((times_Pow.f k t663 ((l0.length : Int) % 4)).bind fun t713 => ((times_Pow.f k t663 2).bind fun t716 => ((times_Mul.f k t713 t716).bind fun t719 => ((times_Pow.f k t663 (((l0.length : Int) % 4) + 2)).bind fun t722 => ((nat_Cmp.f k t719 t722).bind fun t725 => (if t725 = 0 then ((nat_Nat_Bits.f t681).bind fun t726 => ((nat_Nat_Bits.f t663).bind fun t727 => ((nat_Nat_Bits.f t669).bind fun t728 => (some (decide (t726 ≤ (wrap64 (t727 + t728)))))))) else (some false))))))) else (some false))))))) else (some false)))))) else (some false)))) else (some false)))))))))) = some r := h
  clear h
  replace H := Option.bind_eq_some_iff.mp H
  obtain ⟨t660, A40, H⟩ := H
  replace H : ((nat_Made.f k t660).bind fun t663 => ((numerarylaw03_few.f l1).bind fun t666 => ((nat_Made.f k t666).bind fun t669 => ((numerarylaw03_few.f l2).bind fun t672 => ((nat_Made.f k t672).bind fun t675 => ((times_Mul.f k t663 t669).bind fun t681 => ((numerarylaw03_wakes.f k).bind fun t685 => (if t685 = true then ((times_Mul.f k t669 t663).bind fun t686 => ((nat_Cmp.f k t681 t686).bind fun t689 => (if t689 = 0 then ((times_Mul.f k t681 t675).bind fun t690 => ((times_Mul.f k t669 t675).bind fun t693 => ((times_Mul.f k t663 t693).bind fun t696 => ((nat_Cmp.f k t690 t696).bind fun t699 => (if t699 = 0 then ((nat_Add.f k t669 t675).bind fun t700 => ((times_Mul.f k t663 t700).bind fun t703 => ((times_Mul.f k t663 t675).bind fun t706 => ((nat_Add.f k t681 t706).bind fun t709 => ((nat_Cmp.f k t703 t709).bind fun t712 => (if t712 = 0 then ((times_Pow.f k t663 ((l0.length : Int) % 4)).bind fun t713 => ((times_Pow.f k t663 2).bind fun t716 => ((times_Mul.f k t713 t716).bind fun t719 => ((times_Pow.f k t663 (((l0.length : Int) % 4) + 2)).bind fun t722 => ((nat_Cmp.f k t719 t722).bind fun t725 => (if t725 = 0 then ((nat_Nat_Bits.f t681).bind fun t726 => ((nat_Nat_Bits.f t663).bind fun t727 => ((nat_Nat_Bits.f t669).bind fun t728 => (some (decide (t726 ≤ (wrap64 (t727 + t728)))))))) else (some false))))))) else (some false))))))) else (some false)))))) else (some false)))) else (some false))))))))) = some r := H
  have A4 := Aside0.mk A40
  clear A40
  replace H := Option.bind_eq_some_iff.mp H
  obtain ⟨t663, A50, H⟩ := H
  replace H : ((numerarylaw03_few.f l1).bind fun t666 => ((nat_Made.f k t666).bind fun t669 => ((numerarylaw03_few.f l2).bind fun t672 => ((nat_Made.f k t672).bind fun t675 => ((times_Mul.f k t663 t669).bind fun t681 => ((numerarylaw03_wakes.f k).bind fun t685 => (if t685 = true then ((times_Mul.f k t669 t663).bind fun t686 => ((nat_Cmp.f k t681 t686).bind fun t689 => (if t689 = 0 then ((times_Mul.f k t681 t675).bind fun t690 => ((times_Mul.f k t669 t675).bind fun t693 => ((times_Mul.f k t663 t693).bind fun t696 => ((nat_Cmp.f k t690 t696).bind fun t699 => (if t699 = 0 then ((nat_Add.f k t669 t675).bind fun t700 => ((times_Mul.f k t663 t700).bind fun t703 => ((times_Mul.f k t663 t675).bind fun t706 => ((nat_Add.f k t681 t706).bind fun t709 => ((nat_Cmp.f k t703 t709).bind fun t712 => (if t712 = 0 then ((times_Pow.f k t663 ((l0.length : Int) % 4)).bind fun t713 => ((times_Pow.f k t663 2).bind fun t716 => ((times_Mul.f k t713 t716).bind fun t719 => ((times_Pow.f k t663 (((l0.length : Int) % 4) + 2)).bind fun t722 => ((nat_Cmp.f k t719 t722).bind fun t725 => (if t725 = 0 then ((nat_Nat_Bits.f t681).bind fun t726 => ((nat_Nat_Bits.f t663).bind fun t727 => ((nat_Nat_Bits.f t669).bind fun t728 => (some (decide (t726 ≤ (wrap64 (t727 + t728)))))))) else (some false))))))) else (some false))))))) else (some false)))))) else (some false)))) else (some false)))))))) = some r := H
  have A5 := Aside0.mk A50
  clear A50
  replace H := Option.bind_eq_some_iff.mp H
  obtain ⟨t666, A60, H⟩ := H
  replace H : ((nat_Made.f k t666).bind fun t669 => ((numerarylaw03_few.f l2).bind fun t672 => ((nat_Made.f k t672).bind fun t675 => ((times_Mul.f k t663 t669).bind fun t681 => ((numerarylaw03_wakes.f k).bind fun t685 => (if t685 = true then ((times_Mul.f k t669 t663).bind fun t686 => ((nat_Cmp.f k t681 t686).bind fun t689 => (if t689 = 0 then ((times_Mul.f k t681 t675).bind fun t690 => ((times_Mul.f k t669 t675).bind fun t693 => ((times_Mul.f k t663 t693).bind fun t696 => ((nat_Cmp.f k t690 t696).bind fun t699 => (if t699 = 0 then ((nat_Add.f k t669 t675).bind fun t700 => ((times_Mul.f k t663 t700).bind fun t703 => ((times_Mul.f k t663 t675).bind fun t706 => ((nat_Add.f k t681 t706).bind fun t709 => ((nat_Cmp.f k t703 t709).bind fun t712 => (if t712 = 0 then ((times_Pow.f k t663 ((l0.length : Int) % 4)).bind fun t713 => ((times_Pow.f k t663 2).bind fun t716 => ((times_Mul.f k t713 t716).bind fun t719 => ((times_Pow.f k t663 (((l0.length : Int) % 4) + 2)).bind fun t722 => ((nat_Cmp.f k t719 t722).bind fun t725 => (if t725 = 0 then ((nat_Nat_Bits.f t681).bind fun t726 => ((nat_Nat_Bits.f t663).bind fun t727 => ((nat_Nat_Bits.f t669).bind fun t728 => (some (decide (t726 ≤ (wrap64 (t727 + t728)))))))) else (some false))))))) else (some false))))))) else (some false)))))) else (some false)))) else (some false))))))) = some r := H
  have A6 := Aside0.mk A60
  clear A60
  replace H := Option.bind_eq_some_iff.mp H
  obtain ⟨t669, A70, H⟩ := H
  replace H : ((numerarylaw03_few.f l2).bind fun t672 => ((nat_Made.f k t672).bind fun t675 => ((times_Mul.f k t663 t669).bind fun t681 => ((numerarylaw03_wakes.f k).bind fun t685 => (if t685 = true then ((times_Mul.f k t669 t663).bind fun t686 => ((nat_Cmp.f k t681 t686).bind fun t689 => (if t689 = 0 then ((times_Mul.f k t681 t675).bind fun t690 => ((times_Mul.f k t669 t675).bind fun t693 => ((times_Mul.f k t663 t693).bind fun t696 => ((nat_Cmp.f k t690 t696).bind fun t699 => (if t699 = 0 then ((nat_Add.f k t669 t675).bind fun t700 => ((times_Mul.f k t663 t700).bind fun t703 => ((times_Mul.f k t663 t675).bind fun t706 => ((nat_Add.f k t681 t706).bind fun t709 => ((nat_Cmp.f k t703 t709).bind fun t712 => (if t712 = 0 then ((times_Pow.f k t663 ((l0.length : Int) % 4)).bind fun t713 => ((times_Pow.f k t663 2).bind fun t716 => ((times_Mul.f k t713 t716).bind fun t719 => ((times_Pow.f k t663 (((l0.length : Int) % 4) + 2)).bind fun t722 => ((nat_Cmp.f k t719 t722).bind fun t725 => (if t725 = 0 then ((nat_Nat_Bits.f t681).bind fun t726 => ((nat_Nat_Bits.f t663).bind fun t727 => ((nat_Nat_Bits.f t669).bind fun t728 => (some (decide (t726 ≤ (wrap64 (t727 + t728)))))))) else (some false))))))) else (some false))))))) else (some false)))))) else (some false)))) else (some false)))))) = some r := H
  have A7 := Aside0.mk A70
  clear A70
  replace H := Option.bind_eq_some_iff.mp H
  obtain ⟨t672, A80, H⟩ := H
  replace H : ((nat_Made.f k t672).bind fun t675 => ((times_Mul.f k t663 t669).bind fun t681 => ((numerarylaw03_wakes.f k).bind fun t685 => (if t685 = true then ((times_Mul.f k t669 t663).bind fun t686 => ((nat_Cmp.f k t681 t686).bind fun t689 => (if t689 = 0 then ((times_Mul.f k t681 t675).bind fun t690 => ((times_Mul.f k t669 t675).bind fun t693 => ((times_Mul.f k t663 t693).bind fun t696 => ((nat_Cmp.f k t690 t696).bind fun t699 => (if t699 = 0 then ((nat_Add.f k t669 t675).bind fun t700 => ((times_Mul.f k t663 t700).bind fun t703 => ((times_Mul.f k t663 t675).bind fun t706 => ((nat_Add.f k t681 t706).bind fun t709 => ((nat_Cmp.f k t703 t709).bind fun t712 => (if t712 = 0 then ((times_Pow.f k t663 ((l0.length : Int) % 4)).bind fun t713 => ((times_Pow.f k t663 2).bind fun t716 => ((times_Mul.f k t713 t716).bind fun t719 => ((times_Pow.f k t663 (((l0.length : Int) % 4) + 2)).bind fun t722 => ((nat_Cmp.f k t719 t722).bind fun t725 => (if t725 = 0 then ((nat_Nat_Bits.f t681).bind fun t726 => ((nat_Nat_Bits.f t663).bind fun t727 => ((nat_Nat_Bits.f t669).bind fun t728 => (some (decide (t726 ≤ (wrap64 (t727 + t728)))))))) else (some false))))))) else (some false))))))) else (some false)))))) else (some false)))) else (some false))))) = some r := H
  have A8 := Aside0.mk A80
  clear A80
  replace H := Option.bind_eq_some_iff.mp H
  obtain ⟨t675, A90, H⟩ := H
  replace H : ((times_Mul.f k t663 t669).bind fun t681 => ((numerarylaw03_wakes.f k).bind fun t685 => (if t685 = true then ((times_Mul.f k t669 t663).bind fun t686 => ((nat_Cmp.f k t681 t686).bind fun t689 => (if t689 = 0 then ((times_Mul.f k t681 t675).bind fun t690 => ((times_Mul.f k t669 t675).bind fun t693 => ((times_Mul.f k t663 t693).bind fun t696 => ((nat_Cmp.f k t690 t696).bind fun t699 => (if t699 = 0 then ((nat_Add.f k t669 t675).bind fun t700 => ((times_Mul.f k t663 t700).bind fun t703 => ((times_Mul.f k t663 t675).bind fun t706 => ((nat_Add.f k t681 t706).bind fun t709 => ((nat_Cmp.f k t703 t709).bind fun t712 => (if t712 = 0 then ((times_Pow.f k t663 ((l0.length : Int) % 4)).bind fun t713 => ((times_Pow.f k t663 2).bind fun t716 => ((times_Mul.f k t713 t716).bind fun t719 => ((times_Pow.f k t663 (((l0.length : Int) % 4) + 2)).bind fun t722 => ((nat_Cmp.f k t719 t722).bind fun t725 => (if t725 = 0 then ((nat_Nat_Bits.f t681).bind fun t726 => ((nat_Nat_Bits.f t663).bind fun t727 => ((nat_Nat_Bits.f t669).bind fun t728 => (some (decide (t726 ≤ (wrap64 (t727 + t728)))))))) else (some false))))))) else (some false))))))) else (some false)))))) else (some false)))) else (some false)))) = some r := H
  have A9 := Aside0.mk A90
  clear A90
  replace H := Option.bind_eq_some_iff.mp H
  obtain ⟨t681, A100, H⟩ := H
  replace H : ((numerarylaw03_wakes.f k).bind fun t685 => (if t685 = true then ((times_Mul.f k t669 t663).bind fun t686 => ((nat_Cmp.f k t681 t686).bind fun t689 => (if t689 = 0 then ((times_Mul.f k t681 t675).bind fun t690 => ((times_Mul.f k t669 t675).bind fun t693 => ((times_Mul.f k t663 t693).bind fun t696 => ((nat_Cmp.f k t690 t696).bind fun t699 => (if t699 = 0 then ((nat_Add.f k t669 t675).bind fun t700 => ((times_Mul.f k t663 t700).bind fun t703 => ((times_Mul.f k t663 t675).bind fun t706 => ((nat_Add.f k t681 t706).bind fun t709 => ((nat_Cmp.f k t703 t709).bind fun t712 => (if t712 = 0 then ((times_Pow.f k t663 ((l0.length : Int) % 4)).bind fun t713 => ((times_Pow.f k t663 2).bind fun t716 => ((times_Mul.f k t713 t716).bind fun t719 => ((times_Pow.f k t663 (((l0.length : Int) % 4) + 2)).bind fun t722 => ((nat_Cmp.f k t719 t722).bind fun t725 => (if t725 = 0 then ((nat_Nat_Bits.f t681).bind fun t726 => ((nat_Nat_Bits.f t663).bind fun t727 => ((nat_Nat_Bits.f t669).bind fun t728 => (some (decide (t726 ≤ (wrap64 (t727 + t728)))))))) else (some false))))))) else (some false))))))) else (some false)))))) else (some false)))) else (some false))) = some r := H
  have A10 := Aside0.mk A100
  clear A100
  replace H := Option.bind_eq_some_iff.mp H
  obtain ⟨t685, A110, H⟩ := H
  replace H : (if t685 = true then ((times_Mul.f k t669 t663).bind fun t686 => ((nat_Cmp.f k t681 t686).bind fun t689 => (if t689 = 0 then ((times_Mul.f k t681 t675).bind fun t690 => ((times_Mul.f k t669 t675).bind fun t693 => ((times_Mul.f k t663 t693).bind fun t696 => ((nat_Cmp.f k t690 t696).bind fun t699 => (if t699 = 0 then ((nat_Add.f k t669 t675).bind fun t700 => ((times_Mul.f k t663 t700).bind fun t703 => ((times_Mul.f k t663 t675).bind fun t706 => ((nat_Add.f k t681 t706).bind fun t709 => ((nat_Cmp.f k t703 t709).bind fun t712 => (if t712 = 0 then ((times_Pow.f k t663 ((l0.length : Int) % 4)).bind fun t713 => ((times_Pow.f k t663 2).bind fun t716 => ((times_Mul.f k t713 t716).bind fun t719 => ((times_Pow.f k t663 (((l0.length : Int) % 4) + 2)).bind fun t722 => ((nat_Cmp.f k t719 t722).bind fun t725 => (if t725 = 0 then ((nat_Nat_Bits.f t681).bind fun t726 => ((nat_Nat_Bits.f t663).bind fun t727 => ((nat_Nat_Bits.f t669).bind fun t728 => (some (decide (t726 ≤ (wrap64 (t727 + t728)))))))) else (some false))))))) else (some false))))))) else (some false)))))) else (some false)))) else (some false)) = some r := H
  have A11 := Aside0.mk A110
  clear A110
  by_cases c12 : t685 = true
  · subst c12
    have H1 : ((times_Mul.f k t669 t663).bind fun t686 => ((nat_Cmp.f k t681 t686).bind fun t689 => (if t689 = 0 then ((times_Mul.f k t681 t675).bind fun t690 => ((times_Mul.f k t669 t675).bind fun t693 => ((times_Mul.f k t663 t693).bind fun t696 => ((nat_Cmp.f k t690 t696).bind fun t699 => (if t699 = 0 then ((nat_Add.f k t669 t675).bind fun t700 => ((times_Mul.f k t663 t700).bind fun t703 => ((times_Mul.f k t663 t675).bind fun t706 => ((nat_Add.f k t681 t706).bind fun t709 => ((nat_Cmp.f k t703 t709).bind fun t712 => (if t712 = 0 then ((times_Pow.f k t663 ((l0.length : Int) % 4)).bind fun t713 => ((times_Pow.f k t663 2).bind fun t716 => ((times_Mul.f k t713 t716).bind fun t719 => ((times_Pow.f k t663 (((l0.length : Int) % 4) + 2)).bind fun t722 => ((nat_Cmp.f k t719 t722).bind fun t725 => (if t725 = 0 then ((nat_Nat_Bits.f t681).bind fun t726 => ((nat_Nat_Bits.f t663).bind fun t727 => ((nat_Nat_Bits.f t669).bind fun t728 => (some (decide (t726 ≤ (wrap64 (t727 + t728)))))))) else (some false))))))) else (some false))))))) else (some false)))))) else (some false)))) = some r := by rw [if_pos rfl] at H; exact H
    clear H
    have H := H1
    clear H1
    replace H := Option.bind_eq_some_iff.mp H
    obtain ⟨t686, A130, H⟩ := H
    replace H : ((nat_Cmp.f k t681 t686).bind fun t689 => (if t689 = 0 then ((times_Mul.f k t681 t675).bind fun t690 => ((times_Mul.f k t669 t675).bind fun t693 => ((times_Mul.f k t663 t693).bind fun t696 => ((nat_Cmp.f k t690 t696).bind fun t699 => (if t699 = 0 then ((nat_Add.f k t669 t675).bind fun t700 => ((times_Mul.f k t663 t700).bind fun t703 => ((times_Mul.f k t663 t675).bind fun t706 => ((nat_Add.f k t681 t706).bind fun t709 => ((nat_Cmp.f k t703 t709).bind fun t712 => (if t712 = 0 then ((times_Pow.f k t663 ((l0.length : Int) % 4)).bind fun t713 => ((times_Pow.f k t663 2).bind fun t716 => ((times_Mul.f k t713 t716).bind fun t719 => ((times_Pow.f k t663 (((l0.length : Int) % 4) + 2)).bind fun t722 => ((nat_Cmp.f k t719 t722).bind fun t725 => (if t725 = 0 then ((nat_Nat_Bits.f t681).bind fun t726 => ((nat_Nat_Bits.f t663).bind fun t727 => ((nat_Nat_Bits.f t669).bind fun t728 => (some (decide (t726 ≤ (wrap64 (t727 + t728)))))))) else (some false))))))) else (some false))))))) else (some false)))))) else (some false))) = some r := H
    have A13 := Aside0.mk A130
    clear A130
    replace H := Option.bind_eq_some_iff.mp H
    obtain ⟨t689, A140, H⟩ := H
    replace H : (if t689 = 0 then ((times_Mul.f k t681 t675).bind fun t690 => ((times_Mul.f k t669 t675).bind fun t693 => ((times_Mul.f k t663 t693).bind fun t696 => ((nat_Cmp.f k t690 t696).bind fun t699 => (if t699 = 0 then ((nat_Add.f k t669 t675).bind fun t700 => ((times_Mul.f k t663 t700).bind fun t703 => ((times_Mul.f k t663 t675).bind fun t706 => ((nat_Add.f k t681 t706).bind fun t709 => ((nat_Cmp.f k t703 t709).bind fun t712 => (if t712 = 0 then ((times_Pow.f k t663 ((l0.length : Int) % 4)).bind fun t713 => ((times_Pow.f k t663 2).bind fun t716 => ((times_Mul.f k t713 t716).bind fun t719 => ((times_Pow.f k t663 (((l0.length : Int) % 4) + 2)).bind fun t722 => ((nat_Cmp.f k t719 t722).bind fun t725 => (if t725 = 0 then ((nat_Nat_Bits.f t681).bind fun t726 => ((nat_Nat_Bits.f t663).bind fun t727 => ((nat_Nat_Bits.f t669).bind fun t728 => (some (decide (t726 ≤ (wrap64 (t727 + t728)))))))) else (some false))))))) else (some false))))))) else (some false)))))) else (some false)) = some r := H
    have A14 := Aside0.mk A140
    clear A140
    by_cases c15 : t689 = 0
    · rw [if_pos c15] at H
      have c15b0 : (t689 == 0) = true := beq_iff_eq.mpr c15
      have c15b1 : (t689 != 0) = false := bne_eq_false_iff_eq.mpr c15
      clear c15
      replace H := Option.bind_eq_some_iff.mp H
      obtain ⟨t690, A160, H⟩ := H
      replace H : ((times_Mul.f k t669 t675).bind fun t693 => ((times_Mul.f k t663 t693).bind fun t696 => ((nat_Cmp.f k t690 t696).bind fun t699 => (if t699 = 0 then ((nat_Add.f k t669 t675).bind fun t700 => ((times_Mul.f k t663 t700).bind fun t703 => ((times_Mul.f k t663 t675).bind fun t706 => ((nat_Add.f k t681 t706).bind fun t709 => ((nat_Cmp.f k t703 t709).bind fun t712 => (if t712 = 0 then ((times_Pow.f k t663 ((l0.length : Int) % 4)).bind fun t713 => ((times_Pow.f k t663 2).bind fun t716 => ((times_Mul.f k t713 t716).bind fun t719 => ((times_Pow.f k t663 (((l0.length : Int) % 4) + 2)).bind fun t722 => ((nat_Cmp.f k t719 t722).bind fun t725 => (if t725 = 0 then ((nat_Nat_Bits.f t681).bind fun t726 => ((nat_Nat_Bits.f t663).bind fun t727 => ((nat_Nat_Bits.f t669).bind fun t728 => (some (decide (t726 ≤ (wrap64 (t727 + t728)))))))) else (some false))))))) else (some false))))))) else (some false))))) = some r := H
      have A16 := Aside0.mk A160
      clear A160
      replace H := Option.bind_eq_some_iff.mp H
      obtain ⟨t693, A170, H⟩ := H
      replace H : ((times_Mul.f k t663 t693).bind fun t696 => ((nat_Cmp.f k t690 t696).bind fun t699 => (if t699 = 0 then ((nat_Add.f k t669 t675).bind fun t700 => ((times_Mul.f k t663 t700).bind fun t703 => ((times_Mul.f k t663 t675).bind fun t706 => ((nat_Add.f k t681 t706).bind fun t709 => ((nat_Cmp.f k t703 t709).bind fun t712 => (if t712 = 0 then ((times_Pow.f k t663 ((l0.length : Int) % 4)).bind fun t713 => ((times_Pow.f k t663 2).bind fun t716 => ((times_Mul.f k t713 t716).bind fun t719 => ((times_Pow.f k t663 (((l0.length : Int) % 4) + 2)).bind fun t722 => ((nat_Cmp.f k t719 t722).bind fun t725 => (if t725 = 0 then ((nat_Nat_Bits.f t681).bind fun t726 => ((nat_Nat_Bits.f t663).bind fun t727 => ((nat_Nat_Bits.f t669).bind fun t728 => (some (decide (t726 ≤ (wrap64 (t727 + t728)))))))) else (some false))))))) else (some false))))))) else (some false)))) = some r := H
      have A17 := Aside0.mk A170
      clear A170
      replace H := Option.bind_eq_some_iff.mp H
      obtain ⟨t696, A180, H⟩ := H
      replace H : ((nat_Cmp.f k t690 t696).bind fun t699 => (if t699 = 0 then ((nat_Add.f k t669 t675).bind fun t700 => ((times_Mul.f k t663 t700).bind fun t703 => ((times_Mul.f k t663 t675).bind fun t706 => ((nat_Add.f k t681 t706).bind fun t709 => ((nat_Cmp.f k t703 t709).bind fun t712 => (if t712 = 0 then ((times_Pow.f k t663 ((l0.length : Int) % 4)).bind fun t713 => ((times_Pow.f k t663 2).bind fun t716 => ((times_Mul.f k t713 t716).bind fun t719 => ((times_Pow.f k t663 (((l0.length : Int) % 4) + 2)).bind fun t722 => ((nat_Cmp.f k t719 t722).bind fun t725 => (if t725 = 0 then ((nat_Nat_Bits.f t681).bind fun t726 => ((nat_Nat_Bits.f t663).bind fun t727 => ((nat_Nat_Bits.f t669).bind fun t728 => (some (decide (t726 ≤ (wrap64 (t727 + t728)))))))) else (some false))))))) else (some false))))))) else (some false))) = some r := H
      have A18 := Aside0.mk A180
      clear A180
      replace H := Option.bind_eq_some_iff.mp H
      obtain ⟨t699, A190, H⟩ := H
      replace H : (if t699 = 0 then ((nat_Add.f k t669 t675).bind fun t700 => ((times_Mul.f k t663 t700).bind fun t703 => ((times_Mul.f k t663 t675).bind fun t706 => ((nat_Add.f k t681 t706).bind fun t709 => ((nat_Cmp.f k t703 t709).bind fun t712 => (if t712 = 0 then ((times_Pow.f k t663 ((l0.length : Int) % 4)).bind fun t713 => ((times_Pow.f k t663 2).bind fun t716 => ((times_Mul.f k t713 t716).bind fun t719 => ((times_Pow.f k t663 (((l0.length : Int) % 4) + 2)).bind fun t722 => ((nat_Cmp.f k t719 t722).bind fun t725 => (if t725 = 0 then ((nat_Nat_Bits.f t681).bind fun t726 => ((nat_Nat_Bits.f t663).bind fun t727 => ((nat_Nat_Bits.f t669).bind fun t728 => (some (decide (t726 ≤ (wrap64 (t727 + t728)))))))) else (some false))))))) else (some false))))))) else (some false)) = some r := H
      have A19 := Aside0.mk A190
      clear A190
      by_cases c20 : t699 = 0
      · rw [if_pos c20] at H
        have c20b0 : (t699 == 0) = true := beq_iff_eq.mpr c20
        have c20b1 : (t699 != 0) = false := bne_eq_false_iff_eq.mpr c20
        clear c20
        replace H := Option.bind_eq_some_iff.mp H
        obtain ⟨t700, A210, H⟩ := H
        replace H : ((times_Mul.f k t663 t700).bind fun t703 => ((times_Mul.f k t663 t675).bind fun t706 => ((nat_Add.f k t681 t706).bind fun t709 => ((nat_Cmp.f k t703 t709).bind fun t712 => (if t712 = 0 then ((times_Pow.f k t663 ((l0.length : Int) % 4)).bind fun t713 => ((times_Pow.f k t663 2).bind fun t716 => ((times_Mul.f k t713 t716).bind fun t719 => ((times_Pow.f k t663 (((l0.length : Int) % 4) + 2)).bind fun t722 => ((nat_Cmp.f k t719 t722).bind fun t725 => (if t725 = 0 then ((nat_Nat_Bits.f t681).bind fun t726 => ((nat_Nat_Bits.f t663).bind fun t727 => ((nat_Nat_Bits.f t669).bind fun t728 => (some (decide (t726 ≤ (wrap64 (t727 + t728)))))))) else (some false))))))) else (some false)))))) = some r := H
        have A21 := Aside0.mk A210
        clear A210
        replace H := Option.bind_eq_some_iff.mp H
        obtain ⟨t703, A220, H⟩ := H
        replace H : ((times_Mul.f k t663 t675).bind fun t706 => ((nat_Add.f k t681 t706).bind fun t709 => ((nat_Cmp.f k t703 t709).bind fun t712 => (if t712 = 0 then ((times_Pow.f k t663 ((l0.length : Int) % 4)).bind fun t713 => ((times_Pow.f k t663 2).bind fun t716 => ((times_Mul.f k t713 t716).bind fun t719 => ((times_Pow.f k t663 (((l0.length : Int) % 4) + 2)).bind fun t722 => ((nat_Cmp.f k t719 t722).bind fun t725 => (if t725 = 0 then ((nat_Nat_Bits.f t681).bind fun t726 => ((nat_Nat_Bits.f t663).bind fun t727 => ((nat_Nat_Bits.f t669).bind fun t728 => (some (decide (t726 ≤ (wrap64 (t727 + t728)))))))) else (some false))))))) else (some false))))) = some r := H
        have A22 := Aside0.mk A220
        clear A220
        replace H := Option.bind_eq_some_iff.mp H
        obtain ⟨t706, A230, H⟩ := H
        replace H : ((nat_Add.f k t681 t706).bind fun t709 => ((nat_Cmp.f k t703 t709).bind fun t712 => (if t712 = 0 then ((times_Pow.f k t663 ((l0.length : Int) % 4)).bind fun t713 => ((times_Pow.f k t663 2).bind fun t716 => ((times_Mul.f k t713 t716).bind fun t719 => ((times_Pow.f k t663 (((l0.length : Int) % 4) + 2)).bind fun t722 => ((nat_Cmp.f k t719 t722).bind fun t725 => (if t725 = 0 then ((nat_Nat_Bits.f t681).bind fun t726 => ((nat_Nat_Bits.f t663).bind fun t727 => ((nat_Nat_Bits.f t669).bind fun t728 => (some (decide (t726 ≤ (wrap64 (t727 + t728)))))))) else (some false))))))) else (some false)))) = some r := H
        have A23 := Aside0.mk A230
        clear A230
        replace H := Option.bind_eq_some_iff.mp H
        obtain ⟨t709, A240, H⟩ := H
        replace H : ((nat_Cmp.f k t703 t709).bind fun t712 => (if t712 = 0 then ((times_Pow.f k t663 ((l0.length : Int) % 4)).bind fun t713 => ((times_Pow.f k t663 2).bind fun t716 => ((times_Mul.f k t713 t716).bind fun t719 => ((times_Pow.f k t663 (((l0.length : Int) % 4) + 2)).bind fun t722 => ((nat_Cmp.f k t719 t722).bind fun t725 => (if t725 = 0 then ((nat_Nat_Bits.f t681).bind fun t726 => ((nat_Nat_Bits.f t663).bind fun t727 => ((nat_Nat_Bits.f t669).bind fun t728 => (some (decide (t726 ≤ (wrap64 (t727 + t728)))))))) else (some false))))))) else (some false))) = some r := H
        have A24 := Aside0.mk A240
        clear A240
        replace H := Option.bind_eq_some_iff.mp H
        obtain ⟨t712, A250, H⟩ := H
        replace H : (if t712 = 0 then ((times_Pow.f k t663 ((l0.length : Int) % 4)).bind fun t713 => ((times_Pow.f k t663 2).bind fun t716 => ((times_Mul.f k t713 t716).bind fun t719 => ((times_Pow.f k t663 (((l0.length : Int) % 4) + 2)).bind fun t722 => ((nat_Cmp.f k t719 t722).bind fun t725 => (if t725 = 0 then ((nat_Nat_Bits.f t681).bind fun t726 => ((nat_Nat_Bits.f t663).bind fun t727 => ((nat_Nat_Bits.f t669).bind fun t728 => (some (decide (t726 ≤ (wrap64 (t727 + t728)))))))) else (some false))))))) else (some false)) = some r := H
        have A25 := Aside0.mk A250
        clear A250
        by_cases c26 : t712 = 0
        · rw [if_pos c26] at H
          have c26b0 : (t712 == 0) = true := beq_iff_eq.mpr c26
          have c26b1 : (t712 != 0) = false := bne_eq_false_iff_eq.mpr c26
          clear c26
          replace H := Option.bind_eq_some_iff.mp H
          obtain ⟨t713, A270, H⟩ := H
          replace H : ((times_Pow.f k t663 2).bind fun t716 => ((times_Mul.f k t713 t716).bind fun t719 => ((times_Pow.f k t663 (((l0.length : Int) % 4) + 2)).bind fun t722 => ((nat_Cmp.f k t719 t722).bind fun t725 => (if t725 = 0 then ((nat_Nat_Bits.f t681).bind fun t726 => ((nat_Nat_Bits.f t663).bind fun t727 => ((nat_Nat_Bits.f t669).bind fun t728 => (some (decide (t726 ≤ (wrap64 (t727 + t728)))))))) else (some false)))))) = some r := H
          have A27 := Aside0.mk A270
          clear A270
          replace H := Option.bind_eq_some_iff.mp H
          obtain ⟨t716, A280, H⟩ := H
          replace H : ((times_Mul.f k t713 t716).bind fun t719 => ((times_Pow.f k t663 (((l0.length : Int) % 4) + 2)).bind fun t722 => ((nat_Cmp.f k t719 t722).bind fun t725 => (if t725 = 0 then ((nat_Nat_Bits.f t681).bind fun t726 => ((nat_Nat_Bits.f t663).bind fun t727 => ((nat_Nat_Bits.f t669).bind fun t728 => (some (decide (t726 ≤ (wrap64 (t727 + t728)))))))) else (some false))))) = some r := H
          have A28 := Aside0.mk A280
          clear A280
          replace H := Option.bind_eq_some_iff.mp H
          obtain ⟨t719, A290, H⟩ := H
          replace H : ((times_Pow.f k t663 (((l0.length : Int) % 4) + 2)).bind fun t722 => ((nat_Cmp.f k t719 t722).bind fun t725 => (if t725 = 0 then ((nat_Nat_Bits.f t681).bind fun t726 => ((nat_Nat_Bits.f t663).bind fun t727 => ((nat_Nat_Bits.f t669).bind fun t728 => (some (decide (t726 ≤ (wrap64 (t727 + t728)))))))) else (some false)))) = some r := H
          have A29 := Aside0.mk A290
          clear A290
          replace H := Option.bind_eq_some_iff.mp H
          obtain ⟨t722, A300, H⟩ := H
          replace H : ((nat_Cmp.f k t719 t722).bind fun t725 => (if t725 = 0 then ((nat_Nat_Bits.f t681).bind fun t726 => ((nat_Nat_Bits.f t663).bind fun t727 => ((nat_Nat_Bits.f t669).bind fun t728 => (some (decide (t726 ≤ (wrap64 (t727 + t728)))))))) else (some false))) = some r := H
          have A30 := Aside0.mk A300
          clear A300
          replace H := Option.bind_eq_some_iff.mp H
          obtain ⟨t725, A310, H⟩ := H
          replace H : (if t725 = 0 then ((nat_Nat_Bits.f t681).bind fun t726 => ((nat_Nat_Bits.f t663).bind fun t727 => ((nat_Nat_Bits.f t669).bind fun t728 => (some (decide (t726 ≤ (wrap64 (t727 + t728)))))))) else (some false)) = some r := H
          have A31 := Aside0.mk A310
          clear A310
          by_cases c32 : t725 = 0
          · rw [if_pos c32] at H
            have c32b0 : (t725 == 0) = true := beq_iff_eq.mpr c32
            have c32b1 : (t725 != 0) = false := bne_eq_false_iff_eq.mpr c32
            clear c32
            replace H := Option.bind_eq_some_iff.mp H
            obtain ⟨t726, A330, H⟩ := H
            replace H : ((nat_Nat_Bits.f t663).bind fun t727 => ((nat_Nat_Bits.f t669).bind fun t728 => (some (decide (t726 ≤ (wrap64 (t727 + t728))))))) = some r := H
            have A33 := Aside0.mk A330
            clear A330
            replace H := Option.bind_eq_some_iff.mp H
            obtain ⟨t727, A340, H⟩ := H
            replace H : ((nat_Nat_Bits.f t669).bind fun t728 => (some (decide (t726 ≤ (wrap64 (t727 + t728)))))) = some r := H
            have A34 := Aside0.mk A340
            clear A340
            replace H := Option.bind_eq_some_iff.mp H
            obtain ⟨t728, A350, H⟩ := H
            replace H : (some (decide (t726 ≤ (wrap64 (t727 + t728))))) = some r := H
            have A35 := Aside0.mk A350
            clear A350
            obtain rfl := Option.some.inj H
            go_enter Try.func10, Try.ntmps10
            try go_wp2_with (first | ((with_reducible refine gate_callee (f := 17) rfl ?_); refine goesL_ (some 13) rfl rfl Try.func17 (by kernel_rfl) rfl #[.slice A0 l0.length c0] rfl (by (try simp only [List.map_toArray, List.map_cons, List.map_nil]); first | done | rfl | (simp only [List.length_drop, List.length_take]; rfl)) ?_; (with_reducible refine (numerarylaw03_few.calls (fun k_ => k_ < w.heap.size) _ _ l0 t660 _ ?side1 A4.out).mono ?_); (case side1 => exact Kd.V_mk HC0.out (Kd.F_below (Kd.C_F (Kd.heap_int .u32) HR0.out) (by repeat (first | (with_reducible first | exact HB.out | apply below_alloc | apply pw_below_drewN | apply below_drew1) | exact HB.out)))); rintro e w36 ⟨v661, rfl, ho0, hb⟩; refine ⟨_, rfl, ?_⟩; have n0_ := Aside0.mk (Kd.V_lower (Kd.V_mono (ok' := fun k_ => True) ho0 (fun k_ hk_ => trivial)) (below_size (by repeat (first | (with_reducible first | exact HB.out | apply below_alloc | apply pw_below_drewN | apply below_drew1) | exact HB.out)))); have n1_ := Aside0.mk (below_step (by repeat (first | (with_reducible first | exact HB.out | apply below_alloc | apply pw_below_drewN | apply below_drew1) | exact HB.out)) hb); clear HB; have HO662 := n0_; have HB := n1_; clear n0_ n1_; (try clear hb); (try clear hb2); (try clear hk); (try clear hi); (try clear ho0); obtain ⟨Ao37, co37, eo37⟩ := Kd.V_slice HO662.out; subst eo37) | ((with_reducible refine gate_callee (f := 16) rfl ?_); refine goesL_ (some 14) rfl rfl Try.func16 (by kernel_rfl) rfl #[.slice Ao37 t660.length co37] rfl (by (try simp only [List.map_toArray, List.map_cons, List.map_nil]); first | done | rfl | (simp only [List.length_drop, List.length_take]; rfl)) ?_; (with_reducible refine (nat_Made.calls k _ _ t660 t663 _ ?side1 ?side2 A5.out).mono ?_); (case side1 => repeat (first | exact (Kd.V_reads' HO662.out).2.2 | (with_reducible refine Kd.C_alloc ?_ _) | (with_reducible refine Kd.C_drewN ?_ _) | (with_reducible refine Kd.C_drew ?_))); (case side2 => exact (Kd.V_reads' HO662.out).2.1); rintro e w38 ⟨v664, rfl, ho0, hb⟩; refine ⟨_, rfl, ?_⟩; have n0_ := Aside0.mk (Kd.V_elder' (by (with_reducible repeat (first | apply Kd.V_alloc | apply Kd.V_drewN | apply Kd.V_drew)); exact HO662.out) (Kd.R_base ho0) hb); have n1_ := Aside0.mk (Kd.R_lower ho0 (below_size (by repeat (first | (with_reducible first | exact HB.out | apply below_alloc | apply pw_below_drewN | apply below_drew1) | exact HB.out)))); have n2_ := Aside0.mk (below_step (by repeat (first | (with_reducible first | exact HB.out | apply below_alloc | apply pw_below_drewN | apply below_drew1) | exact HB.out)) hb); clear HO662; clear HB; have HO662 := n0_; have HO665 := n1_; have HB := n2_; clear n0_ n1_ n2_; (try clear hb); (try clear hb2); (try clear hk); (try clear hi); (try clear ho0)) | ((with_reducible refine gate_callee (f := 17) rfl ?_); refine goesL_ (some 16) rfl rfl Try.func17 (by kernel_rfl) rfl #[.slice A1 l1.length c1] rfl (by (try simp only [List.map_toArray, List.map_cons, List.map_nil]); first | done | rfl | (simp only [List.length_drop, List.length_take]; rfl)) ?_; (with_reducible refine (numerarylaw03_few.calls (fun k_ => k_ < w.heap.size) _ _ l1 t666 _ ?side1 A6.out).mono ?_); (case side1 => exact Kd.V_mk HC1.out (Kd.F_below (Kd.C_F (Kd.heap_int .u32) HR1.out) (by repeat (first | (with_reducible first | exact HB.out | apply below_alloc | apply pw_below_drewN | apply below_drew1) | exact HB.out)))); rintro e w39 ⟨v667, rfl, ho0, hb⟩; refine ⟨_, rfl, ?_⟩; have n0_ := Aside0.mk (Kd.V_below (by (with_reducible repeat (first | apply Kd.V_alloc | apply Kd.V_drewN | apply Kd.V_drew)); exact HO662.out) hb); have n1_ := Aside0.mk (Kd.R_below (by (with_reducible repeat (first | apply Kd.R_alloc | apply Kd.R_drewN | apply Kd.R_drew)); exact HO665.out) hb); have n2_ := Aside0.mk (Kd.V_lower (Kd.V_mono (ok' := fun k_ => some k_ ≠ (v664 : Value).ownBlock) ho0 (fun k_ hk_ => Or.elim hk_ (fun hs_ => fun e_ => Nat.not_le.2 hs_ (Kd.R_base HO665.out k_ e_.symm)) (fun hn_ => (Kd.fresh' (Kd.R_lt (by (with_reducible repeat (first | apply Kd.R_alloc | apply Kd.R_drewN | apply Kd.R_drew)); exact HO665.out)) k_ hn_)))) (below_size (by repeat (first | (with_reducible first | exact HB.out | apply below_alloc | apply pw_below_drewN | apply below_drew1) | exact HB.out)))); have n3_ := Aside0.mk (below_step (by repeat (first | (with_reducible first | exact HB.out | apply below_alloc | apply pw_below_drewN | apply below_drew1) | exact HB.out)) hb); clear HO662; clear HO665; clear HB; have HO662 := n0_; have HO665 := n1_; have HO668 := n2_; have HB := n3_; clear n0_ n1_ n2_ n3_; (try clear hb); (try clear hb2); (try clear hk); (try clear hi); (try clear ho0); obtain ⟨Ao40, co40, eo40⟩ := Kd.V_slice HO668.out; subst eo40) | ((with_reducible refine gate_callee (f := 16) rfl ?_); refine goesL_ (some 17) rfl rfl Try.func16 (by kernel_rfl) rfl #[.slice Ao40 t666.length co40] rfl (by (try simp only [List.map_toArray, List.map_cons, List.map_nil]); first | done | rfl | (simp only [List.length_drop, List.length_take]; rfl)) ?_; (with_reducible refine (nat_Made.calls k _ _ t666 t669 _ ?side1 ?side2 A7.out).mono ?_); (case side1 => repeat (first | exact (Kd.V_reads' HO668.out).2.2 | (with_reducible refine Kd.C_alloc ?_ _) | (with_reducible refine Kd.C_drewN ?_ _) | (with_reducible refine Kd.C_drew ?_))); (case side2 => exact (Kd.V_reads' HO668.out).2.1); rintro e w41 ⟨v670, rfl, ho0, hb⟩; refine ⟨_, rfl, ?_⟩; have n0_ := Aside0.mk (Kd.V_elder' (by (with_reducible repeat (first | apply Kd.V_alloc | apply Kd.V_drewN | apply Kd.V_drew)); exact HO662.out) (Kd.R_base ho0) hb); have n1_ := Aside0.mk (Kd.R_elder' (by (with_reducible repeat (first | apply Kd.R_alloc | apply Kd.R_drewN | apply Kd.R_drew)); exact HO665.out) (Kd.R_base ho0) hb); have n2_ := Aside0.mk (Kd.V_elder' (by (with_reducible repeat (first | apply Kd.V_alloc | apply Kd.V_drewN | apply Kd.V_drew)); exact HO668.out) (Kd.R_base ho0) hb); have n3_ := Aside0.mk (Kd.R_lower (Kd.R_new' ho0 (Kd.R_lt (by (with_reducible repeat (first | apply Kd.R_alloc | apply Kd.R_drewN | apply Kd.R_drew)); exact HO665.out))) (below_size (by repeat (first | (with_reducible first | exact HB.out | apply below_alloc | apply pw_below_drewN | apply below_drew1) | exact HB.out)))); have n4_ := Aside0.mk (below_step (by repeat (first | (with_reducible first | exact HB.out | apply below_alloc | apply pw_below_drewN | apply below_drew1) | exact HB.out)) hb); clear HO662; clear HO665; clear HO668; clear HB; have HO662 := n0_; have HO665 := n1_; have HO668 := n2_; have HO671 := n3_; have HB := n4_; clear n0_ n1_ n2_ n3_ n4_; (try clear hb); (try clear hb2); (try clear hk); (try clear hi); (try clear ho0)) | ((with_reducible refine gate_callee (f := 17) rfl ?_); refine goesL_ (some 19) rfl rfl Try.func17 (by kernel_rfl) rfl #[.slice A2 l2.length c2] rfl (by (try simp only [List.map_toArray, List.map_cons, List.map_nil]); first | done | rfl | (simp only [List.length_drop, List.length_take]; rfl)) ?_; (with_reducible refine (numerarylaw03_few.calls (fun k_ => k_ < w.heap.size) _ _ l2 t672 _ ?side1 A8.out).mono ?_); (case side1 => exact Kd.V_mk HC2.out (Kd.F_below (Kd.C_F (Kd.heap_int .u32) HR2.out) (by repeat (first | (with_reducible first | exact HB.out | apply below_alloc | apply pw_below_drewN | apply below_drew1) | exact HB.out)))); rintro e w42 ⟨v673, rfl, ho0, hb⟩; refine ⟨_, rfl, ?_⟩; have n0_ := Aside0.mk (Kd.V_below (by (with_reducible repeat (first | apply Kd.V_alloc | apply Kd.V_drewN | apply Kd.V_drew)); exact HO662.out) hb); have n1_ := Aside0.mk (Kd.R_below (by (with_reducible repeat (first | apply Kd.R_alloc | apply Kd.R_drewN | apply Kd.R_drew)); exact HO665.out) hb); have n2_ := Aside0.mk (Kd.V_below (by (with_reducible repeat (first | apply Kd.V_alloc | apply Kd.V_drewN | apply Kd.V_drew)); exact HO668.out) hb); have n3_ := Aside0.mk (Kd.R_below (by (with_reducible repeat (first | apply Kd.R_alloc | apply Kd.R_drewN | apply Kd.R_drew)); exact HO671.out) hb); have n4_ := Aside0.mk (Kd.V_lower (Kd.V_mono (ok' := fun k_ => some k_ ≠ (v664 : Value).ownBlock ∧ some k_ ≠ (v670 : Value).ownBlock) ho0 (fun k_ hk_ => ⟨Or.elim hk_ (fun hs_ => fun e_ => Nat.not_le.2 hs_ (Kd.R_base HO665.out k_ e_.symm)) (fun hn_ => (Kd.fresh' (Kd.R_lt (by (with_reducible repeat (first | apply Kd.R_alloc | apply Kd.R_drewN | apply Kd.R_drew)); exact HO665.out)) k_ hn_)), Or.elim hk_ (fun hs_ => fun e_ => Nat.not_le.2 hs_ (Kd.R_base HO671.out k_ e_.symm)) (fun hn_ => (Kd.fresh' (Kd.R_lt (by (with_reducible repeat (first | apply Kd.R_alloc | apply Kd.R_drewN | apply Kd.R_drew)); exact HO671.out)) k_ hn_))⟩)) (below_size (by repeat (first | (with_reducible first | exact HB.out | apply below_alloc | apply pw_below_drewN | apply below_drew1) | exact HB.out)))); have n5_ := Aside0.mk (below_step (by repeat (first | (with_reducible first | exact HB.out | apply below_alloc | apply pw_below_drewN | apply below_drew1) | exact HB.out)) hb); clear HO662; clear HO665; clear HO668; clear HO671; clear HB; have HO662 := n0_; have HO665 := n1_; have HO668 := n2_; have HO671 := n3_; have HO674 := n4_; have HB := n5_; clear n0_ n1_ n2_ n3_ n4_ n5_; (try clear hb); (try clear hb2); (try clear hk); (try clear hi); (try clear ho0); obtain ⟨Ao43, co43, eo43⟩ := Kd.V_slice HO674.out; subst eo43) | ((with_reducible refine gate_callee (f := 16) rfl ?_); refine goesL_ (some 20) rfl rfl Try.func16 (by kernel_rfl) rfl #[.slice Ao43 t672.length co43] rfl (by (try simp only [List.map_toArray, List.map_cons, List.map_nil]); first | done | rfl | (simp only [List.length_drop, List.length_take]; rfl)) ?_; (with_reducible refine (nat_Made.calls k _ _ t672 t675 _ ?side1 ?side2 A9.out).mono ?_); (case side1 => repeat (first | exact (Kd.V_reads' HO674.out).2.2 | (with_reducible refine Kd.C_alloc ?_ _) | (with_reducible refine Kd.C_drewN ?_ _) | (with_reducible refine Kd.C_drew ?_))); (case side2 => exact (Kd.V_reads' HO674.out).2.1); rintro e w44 ⟨v676, rfl, ho0, hb⟩; refine ⟨_, rfl, ?_⟩; have n0_ := Aside0.mk (Kd.V_elder' (by (with_reducible repeat (first | apply Kd.V_alloc | apply Kd.V_drewN | apply Kd.V_drew)); exact HO662.out) (Kd.R_base ho0) hb); have n1_ := Aside0.mk (Kd.R_elder' (by (with_reducible repeat (first | apply Kd.R_alloc | apply Kd.R_drewN | apply Kd.R_drew)); exact HO665.out) (Kd.R_base ho0) hb); have n2_ := Aside0.mk (Kd.V_elder' (by (with_reducible repeat (first | apply Kd.V_alloc | apply Kd.V_drewN | apply Kd.V_drew)); exact HO668.out) (Kd.R_base ho0) hb); have n3_ := Aside0.mk (Kd.R_elder' (by (with_reducible repeat (first | apply Kd.R_alloc | apply Kd.R_drewN | apply Kd.R_drew)); exact HO671.out) (Kd.R_base ho0) hb); have n4_ := Aside0.mk (Kd.V_elder' (by (with_reducible repeat (first | apply Kd.V_alloc | apply Kd.V_drewN | apply Kd.V_drew)); exact HO674.out) (Kd.R_base ho0) hb); have n5_ := Aside0.mk (Kd.R_lower (Kd.R_new' (Kd.R_new' ho0 (Kd.R_lt (by (with_reducible repeat (first | apply Kd.R_alloc | apply Kd.R_drewN | apply Kd.R_drew)); exact HO665.out))) (Kd.R_lt (by (with_reducible repeat (first | apply Kd.R_alloc | apply Kd.R_drewN | apply Kd.R_drew)); exact HO671.out))) (below_size (by repeat (first | (with_reducible first | exact HB.out | apply below_alloc | apply pw_below_drewN | apply below_drew1) | exact HB.out)))); have n6_ := Aside0.mk (below_step (by repeat (first | (with_reducible first | exact HB.out | apply below_alloc | apply pw_below_drewN | apply below_drew1) | exact HB.out)) hb); clear HO662; clear HO665; clear HO668; clear HO671; clear HO674; clear HB; have HO662 := n0_; have HO665 := n1_; have HO668 := n2_; have HO671 := n3_; have HO674 := n4_; have HO677 := n5_; have HB := n6_; clear n0_ n1_ n2_ n3_ n4_ n5_ n6_; (try clear hb); (try clear hb2); (try clear hk); (try clear hi); (try clear ho0)) | ((with_reducible refine gate_dst (N := 7) rfl ?_); refine box_event ?hg (N := 7) ?hd (cs := #[.slice none 0 0]) (t := 25) ?hr ?_; (case hd => rfl); (case hg => rfl); (case hr => first | (go_simp; done) | (go_simp; rfl)); intro gb678 hg w45 hbox hb; have n0_ := Aside0.mk (Kd.V_below (Kd.V_elderB (by (with_reducible repeat (first | apply Kd.V_alloc | apply Kd.V_drewN | apply Kd.V_drew)); exact HO662.out) gb678 (Nat.le_of_eq hg.symm)) hb); have n1_ := Aside0.mk (Kd.R_below (by (with_reducible repeat (first | apply Kd.R_alloc | apply Kd.R_drewN | apply Kd.R_drew)); exact HO665.out) hb); have n2_ := Aside0.mk (Kd.V_below (Kd.V_elderB (by (with_reducible repeat (first | apply Kd.V_alloc | apply Kd.V_drewN | apply Kd.V_drew)); exact HO668.out) gb678 (Nat.le_of_eq hg.symm)) hb); have n3_ := Aside0.mk (Kd.R_below (by (with_reducible repeat (first | apply Kd.R_alloc | apply Kd.R_drewN | apply Kd.R_drew)); exact HO671.out) hb); have n4_ := Aside0.mk (Kd.V_below (Kd.V_elderB (by (with_reducible repeat (first | apply Kd.V_alloc | apply Kd.V_drewN | apply Kd.V_drew)); exact HO674.out) gb678 (Nat.le_of_eq hg.symm)) hb); have n5_ := Aside0.mk (Kd.R_below (by (with_reducible repeat (first | apply Kd.R_alloc | apply Kd.R_drewN | apply Kd.R_drew)); exact HO677.out) hb); have n6_ := Aside0.mk (below_step (by repeat (first | (with_reducible first | exact HB.out | apply below_alloc | apply pw_below_drewN | apply below_drew1) | exact HB.out)) hb); have n7_ := Aside0.mk (hbox); have n8_ := Aside0.mk ((by rw [hg]; exact (below_size (by repeat (first | (with_reducible first | exact HB.out | apply below_alloc | apply pw_below_drewN | apply below_drew1) | exact HB.out))) : w.heap.size ≤ gb678)); have n9_ := Aside0.mk ((by rw [hg]; exact (below_size (by repeat (first | (with_reducible first | exact HB.out | apply below_alloc | apply pw_below_drewN | apply below_drew1) | exact HB.out))) : w.heap.size ≤ gb678)); clear HO662; clear HO665; clear HO668; clear HO671; clear HO674; clear HO677; clear HB; have HO662 := n0_; have HO665 := n1_; have HO668 := n2_; have HO671 := n3_; have HO674 := n4_; have HO677 := n5_; have HB := n6_; have BK678 := n7_; have GW678 := n8_; have GE678 := n9_; clear n0_ n1_ n2_ n3_ n4_ n5_ n6_ n7_ n8_ n9_; clear hb hbox hg) | ((with_reducible refine gate_dst (N := 8) rfl ?_); refine box_event ?hg (N := 8) ?hd (cs := #[.slice none 0 0]) (t := 25) ?hr ?_; (case hd => rfl); (case hg => rfl); (case hr => first | (go_simp; done) | (go_simp; rfl)); intro gb679 hg w46 hbox hb; have n0_ := Aside0.mk (Kd.V_below (Kd.V_elderB (by (with_reducible repeat (first | apply Kd.V_alloc | apply Kd.V_drewN | apply Kd.V_drew)); exact HO662.out) gb679 (Nat.le_of_eq hg.symm)) hb); have n1_ := Aside0.mk (Kd.R_below (by (with_reducible repeat (first | apply Kd.R_alloc | apply Kd.R_drewN | apply Kd.R_drew)); exact HO665.out) hb); have n2_ := Aside0.mk (Kd.V_below (Kd.V_elderB (by (with_reducible repeat (first | apply Kd.V_alloc | apply Kd.V_drewN | apply Kd.V_drew)); exact HO668.out) gb679 (Nat.le_of_eq hg.symm)) hb); have n3_ := Aside0.mk (Kd.R_below (by (with_reducible repeat (first | apply Kd.R_alloc | apply Kd.R_drewN | apply Kd.R_drew)); exact HO671.out) hb); have n4_ := Aside0.mk (Kd.V_below (Kd.V_elderB (by (with_reducible repeat (first | apply Kd.V_alloc | apply Kd.V_drewN | apply Kd.V_drew)); exact HO674.out) gb679 (Nat.le_of_eq hg.symm)) hb); have n5_ := Aside0.mk (Kd.R_below (by (with_reducible repeat (first | apply Kd.R_alloc | apply Kd.R_drewN | apply Kd.R_drew)); exact HO677.out) hb); have n6_ := Aside0.mk (blk_below (g := gb678) (o := .cells #[.slice none 0 0] 25 (0, 0)) (by (with_reducible repeat (first | refine blk_drewN ?_ _ | refine blk_drew ?_ | refine blk_alloc ?_ _)); exact BK678.out) hb); have n7_ := Aside0.mk (below_step (by repeat (first | (with_reducible first | exact HB.out | apply below_alloc | apply pw_below_drewN | apply below_drew1 | refine below_set ?_ GE678.out) | exact HB.out)) hb); have n8_ := Aside0.mk (hbox); have n9_ := Aside0.mk ((by rw [hg]; exact (below_size (by repeat (first | (with_reducible first | exact HB.out | apply below_alloc | apply pw_below_drewN | apply below_drew1 | refine below_set ?_ GE678.out) | exact HB.out))) : w.heap.size ≤ gb679)); have n10_ := Aside0.mk ((by rw [hg]; exact (below_size (by repeat (first | (with_reducible first | exact HB.out | apply below_alloc | apply pw_below_drewN | apply below_drew1 | refine below_set ?_ GE678.out) | exact HB.out))) : w.heap.size ≤ gb679)); have n11_ := Aside0.mk ((by rw [hg]; exact Nat.ne_of_lt (blk_lt (g := gb678) (o := .cells #[.slice none 0 0] 25 (0, 0)) (by (with_reducible repeat (first | refine blk_drewN ?_ _ | refine blk_drew ?_ | refine blk_alloc ?_ _)); exact BK678.out)) : gb678 ≠ gb679)); have n12_ := Aside0.mk ((by rw [hg]; exact Nat.ne_of_gt (blk_lt (g := gb678) (o := .cells #[.slice none 0 0] 25 (0, 0)) (by (with_reducible repeat (first | refine blk_drewN ?_ _ | refine blk_drew ?_ | refine blk_alloc ?_ _)); exact BK678.out)) : gb679 ≠ gb678)); clear HO662; clear HO665; clear HO668; clear HO671; clear HO674; clear HO677; clear BK678; clear HB; have HO662 := n0_; have HO665 := n1_; have HO668 := n2_; have HO671 := n3_; have HO674 := n4_; have HO677 := n5_; have BK678 := n6_; have HB := n7_; have BK679 := n8_; have GW679 := n9_; have GE679 := n10_; have NB678_679 := n11_; have NB679_678 := n12_; clear n0_ n1_ n2_ n3_ n4_ n5_ n6_ n7_ n8_ n9_ n10_ n11_ n12_; clear hb hbox hg) | ((with_reducible refine gate_dst (N := 9) rfl ?_); refine box_event ?hg (N := 9) ?hd (cs := #[.slice none 0 0]) (t := 25) ?hr ?_; (case hd => rfl); (case hg => rfl); (case hr => first | (go_simp; done) | (go_simp; rfl)); intro gb680 hg w47 hbox hb; have n0_ := Aside0.mk (Kd.V_below (Kd.V_elderB (by (with_reducible repeat (first | apply Kd.V_alloc | apply Kd.V_drewN | apply Kd.V_drew)); exact HO662.out) gb680 (Nat.le_of_eq hg.symm)) hb); have n1_ := Aside0.mk (Kd.R_below (by (with_reducible repeat (first | apply Kd.R_alloc | apply Kd.R_drewN | apply Kd.R_drew)); exact HO665.out) hb); have n2_ := Aside0.mk (Kd.V_below (Kd.V_elderB (by (with_reducible repeat (first | apply Kd.V_alloc | apply Kd.V_drewN | apply Kd.V_drew)); exact HO668.out) gb680 (Nat.le_of_eq hg.symm)) hb); have n3_ := Aside0.mk (Kd.R_below (by (with_reducible repeat (first | apply Kd.R_alloc | apply Kd.R_drewN | apply Kd.R_drew)); exact HO671.out) hb); have n4_ := Aside0.mk (Kd.V_below (Kd.V_elderB (by (with_reducible repeat (first | apply Kd.V_alloc | apply Kd.V_drewN | apply Kd.V_drew)); exact HO674.out) gb680 (Nat.le_of_eq hg.symm)) hb); have n5_ := Aside0.mk (Kd.R_below (by (with_reducible repeat (first | apply Kd.R_alloc | apply Kd.R_drewN | apply Kd.R_drew)); exact HO677.out) hb); have n6_ := Aside0.mk (blk_below (g := gb678) (o := .cells #[.slice none 0 0] 25 (0, 0)) (by (with_reducible repeat (first | refine blk_drewN ?_ _ | refine blk_drew ?_ | refine blk_alloc ?_ _)); exact BK678.out) hb); have n7_ := Aside0.mk (blk_below (g := gb679) (o := .cells #[.slice none 0 0] 25 (0, 0)) (by (with_reducible repeat (first | refine blk_drewN ?_ _ | refine blk_drew ?_ | refine blk_alloc ?_ _)); exact BK679.out) hb); have n8_ := Aside0.mk (below_step (by repeat (first | (with_reducible first | exact HB.out | apply below_alloc | apply pw_below_drewN | apply below_drew1 | refine below_set ?_ GE678.out | refine below_set ?_ GE679.out) | exact HB.out)) hb); have n9_ := Aside0.mk (hbox); have n10_ := Aside0.mk ((by rw [hg]; exact (below_size (by repeat (first | (with_reducible first | exact HB.out | apply below_alloc | apply pw_below_drewN | apply below_drew1 | refine below_set ?_ GE678.out | refine below_set ?_ GE679.out) | exact HB.out))) : w.heap.size ≤ gb680)); have n11_ := Aside0.mk ((by rw [hg]; exact (below_size (by repeat (first | (with_reducible first | exact HB.out | apply below_alloc | apply pw_below_drewN | apply below_drew1 | refine below_set ?_ GE678.out | refine below_set ?_ GE679.out) | exact HB.out))) : w.heap.size ≤ gb680)); have n12_ := Aside0.mk ((by rw [hg]; exact Nat.ne_of_lt (blk_lt (g := gb678) (o := .cells #[.slice none 0 0] 25 (0, 0)) (by (with_reducible repeat (first | refine blk_drewN ?_ _ | refine blk_drew ?_ | refine blk_alloc ?_ _)); exact BK678.out)) : gb678 ≠ gb680)); have n13_ := Aside0.mk ((by rw [hg]; exact Nat.ne_of_gt (blk_lt (g := gb678) (o := .cells #[.slice none 0 0] 25 (0, 0)) (by (with_reducible repeat (first | refine blk_drewN ?_ _ | refine blk_drew ?_ | refine blk_alloc ?_ _)); exact BK678.out)) : gb680 ≠ gb678)); have n14_ := Aside0.mk ((by rw [hg]; exact Nat.ne_of_lt (blk_lt (g := gb679) (o := .cells #[.slice none 0 0] 25 (0, 0)) (by (with_reducible repeat (first | refine blk_drewN ?_ _ | refine blk_drew ?_ | refine blk_alloc ?_ _)); exact BK679.out)) : gb679 ≠ gb680)); have n15_ := Aside0.mk ((by rw [hg]; exact Nat.ne_of_gt (blk_lt (g := gb679) (o := .cells #[.slice none 0 0] 25 (0, 0)) (by (with_reducible repeat (first | refine blk_drewN ?_ _ | refine blk_drew ?_ | refine blk_alloc ?_ _)); exact BK679.out)) : gb680 ≠ gb679)); clear HO662; clear HO665; clear HO668; clear HO671; clear HO674; clear HO677; clear BK678; clear BK679; clear HB; have HO662 := n0_; have HO665 := n1_; have HO668 := n2_; have HO671 := n3_; have HO674 := n4_; have HO677 := n5_; have BK678 := n6_; have BK679 := n7_; have HB := n8_; have BK680 := n9_; have GW680 := n10_; have GE680 := n11_; have NB678_680 := n12_; have NB680_678 := n13_; have NB679_680 := n14_; have NB680_679 := n15_; clear n0_ n1_ n2_ n3_ n4_ n5_ n6_ n7_ n8_ n9_ n10_ n11_ n12_ n13_ n14_ n15_; clear hb hbox hg; obtain ⟨Ao48, co48, eo48⟩ := Kd.R_slice HO665.out; subst eo48; have hnb49 := NB678_679.out; have hnc49 := NB679_678.out; have hnb50 := NB678_680.out; have hnc50 := NB680_678.out; have hcz51_0 : w47.cell? ⟨gb678, 0, none⟩ = some (.slice none 0 0) := (blk_cell BK678.out 0).trans rfl; have hfz51_0 := blk_frozen BK678.out 0; obtain ⟨Ao52, co52, eo52⟩ := Kd.R_slice HO671.out; subst eo52; have hnb53 := NB679_680.out; have hnc53 := NB680_679.out; have hcz54_0 : w47.cell? ⟨gb679, 0, none⟩ = some (.slice none 0 0) := (blk_cell BK679.out 0).trans rfl; have hfz54_0 := blk_frozen BK679.out 0; obtain ⟨Ao55, co55, eo55⟩ := Kd.R_slice HO677.out; subst eo55; have hcz56_0 : w47.cell? ⟨gb680, 0, none⟩ = some (.slice none 0 0) := (blk_cell BK680.out 0).trans rfl; have hfz56_0 := blk_frozen BK680.out 0) | ((with_reducible refine gate_callee (f := 24) rfl ?_); refine goesL_ (some 23) rfl rfl Try.func24 (by kernel_rfl) rfl #[.agg #[.slice Ao48 t663.length co48], .agg #[.slice Ao52 t669.length co52]] rfl (by (try simp only [List.map_toArray, List.map_cons, List.map_nil]); first | done | rfl | (simp only [List.length_drop, List.length_take]; rfl)) ?_; (with_reducible refine (times_Mul.calls k _ _ t663 _ _ t669 t681 _ ?side1 ?side2 ?side3 ?side4 A10.out).mono ?_); (case side1 => exact (Kd.R_reads' (e := 23) (base := w.heap.size) (n := t663.length) (c := co48) (by (with_reducible repeat (first | apply Kd.R_alloc | apply Kd.R_drewN | apply Kd.R_drew)); exact (Kd.R_mono (Kd.R_mono (Kd.R_mono (Kd.R_far (p := ⟨gb680, 0, none⟩) (Kd.R_far (p := ⟨gb679, 0, none⟩) (Kd.R_far (p := ⟨gb678, 0, none⟩) (Kd.R_types (Kd.R_types (Kd.R_types HO665.out BK678.out (by decide)) BK679.out (by decide)) BK680.out (by decide)) (fun _ hk => hk.1.1.2) (.slice Ao48 t663.length co48)) (fun _ hk => hk.1.2) (.slice Ao52 t669.length co52)) (fun _ hk => hk.2) (.slice Ao55 t675.length co55)) (fun _ h_ => h_.1)) (fun _ h_ => h_.1)) (fun _ h_ => h_.1)))).2.2); (case side2 => exact (Kd.R_reads' HO665.out).2.1); (case side3 => exact (Kd.R_reads' (e := 23) (base := w.heap.size) (n := t669.length) (c := co52) (by (with_reducible repeat (first | apply Kd.R_alloc | apply Kd.R_drewN | apply Kd.R_drew)); exact (Kd.R_mono (Kd.R_mono (Kd.R_mono (Kd.R_far (p := ⟨gb680, 0, none⟩) (Kd.R_far (p := ⟨gb679, 0, none⟩) (Kd.R_far (p := ⟨gb678, 0, none⟩) (Kd.R_types (Kd.R_types (Kd.R_types HO671.out BK678.out (by decide)) BK679.out (by decide)) BK680.out (by decide)) (fun _ hk => hk.1.1.2) (.slice Ao48 t663.length co48)) (fun _ hk => hk.1.2) (.slice Ao52 t669.length co52)) (fun _ hk => hk.2) (.slice Ao55 t675.length co55)) (fun _ h_ => h_.1)) (fun _ h_ => h_.1)) (fun _ h_ => h_.1)))).2.2); (case side4 => exact (Kd.R_reads' HO671.out).2.1); rintro e w57 ⟨v682, rfl, ho0, hb⟩; refine ⟨_, rfl, ?_⟩; have n0_ := Aside0.mk (Kd.V_elder' (by (with_reducible repeat (first | apply Kd.V_alloc | apply Kd.V_drewN | apply Kd.V_drew)); exact (Kd.V_mono (Kd.V_mono (Kd.V_mono (Kd.V_far (p := ⟨gb680, 0, none⟩) (Kd.V_far (p := ⟨gb679, 0, none⟩) (Kd.V_far (p := ⟨gb678, 0, none⟩) (Kd.V_mono (Kd.V_mono (Kd.V_mono HO662.out (fun k_ hk => (⟨hk, hk.1.1.2⟩ : _ ∧ k_ ≠ gb678))) (fun k_ hk => (⟨hk, hk.1.1.2⟩ : _ ∧ k_ ≠ gb679))) (fun k_ hk => (⟨hk, hk.1.1.2⟩ : _ ∧ k_ ≠ gb680))) (fun _ hk => hk.1.1.2) (.slice Ao48 t663.length co48)) (fun _ hk => hk.1.2) (.slice Ao52 t669.length co52)) (fun _ hk => hk.2) (.slice Ao55 t675.length co55)) (fun _ h_ => h_.1)) (fun _ h_ => h_.1)) (fun _ h_ => h_.1))) (Kd.R_base ho0) hb); have n1_ := Aside0.mk (Kd.R_elder' (by (with_reducible repeat (first | apply Kd.R_alloc | apply Kd.R_drewN | apply Kd.R_drew)); exact (Kd.R_mono (Kd.R_mono (Kd.R_mono (Kd.R_far (p := ⟨gb680, 0, none⟩) (Kd.R_far (p := ⟨gb679, 0, none⟩) (Kd.R_far (p := ⟨gb678, 0, none⟩) (Kd.R_types (Kd.R_types (Kd.R_types HO665.out BK678.out (by decide)) BK679.out (by decide)) BK680.out (by decide)) (fun _ hk => hk.1.1.2) (.slice Ao48 t663.length co48)) (fun _ hk => hk.1.2) (.slice Ao52 t669.length co52)) (fun _ hk => hk.2) (.slice Ao55 t675.length co55)) (fun _ h_ => h_.1)) (fun _ h_ => h_.1)) (fun _ h_ => h_.1))) (Kd.R_base ho0) hb); have n2_ := Aside0.mk (Kd.V_elder' (by (with_reducible repeat (first | apply Kd.V_alloc | apply Kd.V_drewN | apply Kd.V_drew)); exact (Kd.V_mono (Kd.V_mono (Kd.V_mono (Kd.V_far (p := ⟨gb680, 0, none⟩) (Kd.V_far (p := ⟨gb679, 0, none⟩) (Kd.V_far (p := ⟨gb678, 0, none⟩) (Kd.V_mono (Kd.V_mono (Kd.V_mono HO668.out (fun k_ hk => (⟨hk, hk.1.1.2⟩ : _ ∧ k_ ≠ gb678))) (fun k_ hk => (⟨hk, hk.1.1.2⟩ : _ ∧ k_ ≠ gb679))) (fun k_ hk => (⟨hk, hk.1.1.2⟩ : _ ∧ k_ ≠ gb680))) (fun _ hk => hk.1.1.2) (.slice Ao48 t663.length co48)) (fun _ hk => hk.1.2) (.slice Ao52 t669.length co52)) (fun _ hk => hk.2) (.slice Ao55 t675.length co55)) (fun _ h_ => h_.1)) (fun _ h_ => h_.1)) (fun _ h_ => h_.1))) (Kd.R_base ho0) hb); have n3_ := Aside0.mk (Kd.R_elder' (by (with_reducible repeat (first | apply Kd.R_alloc | apply Kd.R_drewN | apply Kd.R_drew)); exact (Kd.R_mono (Kd.R_mono (Kd.R_mono (Kd.R_far (p := ⟨gb680, 0, none⟩) (Kd.R_far (p := ⟨gb679, 0, none⟩) (Kd.R_far (p := ⟨gb678, 0, none⟩) (Kd.R_types (Kd.R_types (Kd.R_types HO671.out BK678.out (by decide)) BK679.out (by decide)) BK680.out (by decide)) (fun _ hk => hk.1.1.2) (.slice Ao48 t663.length co48)) (fun _ hk => hk.1.2) (.slice Ao52 t669.length co52)) (fun _ hk => hk.2) (.slice Ao55 t675.length co55)) (fun _ h_ => h_.1)) (fun _ h_ => h_.1)) (fun _ h_ => h_.1))) (Kd.R_base ho0) hb); have n4_ := Aside0.mk (Kd.V_elder' (by (with_reducible repeat (first | apply Kd.V_alloc | apply Kd.V_drewN | apply Kd.V_drew)); exact (Kd.V_mono (Kd.V_mono (Kd.V_mono (Kd.V_far (p := ⟨gb680, 0, none⟩) (Kd.V_far (p := ⟨gb679, 0, none⟩) (Kd.V_far (p := ⟨gb678, 0, none⟩) (Kd.V_mono (Kd.V_mono (Kd.V_mono HO674.out (fun k_ hk => (⟨hk, hk.1.1.2⟩ : _ ∧ k_ ≠ gb678))) (fun k_ hk => (⟨hk, hk.1.1.2⟩ : _ ∧ k_ ≠ gb679))) (fun k_ hk => (⟨hk, hk.1.1.2⟩ : _ ∧ k_ ≠ gb680))) (fun _ hk => hk.1.1.2) (.slice Ao48 t663.length co48)) (fun _ hk => hk.1.2) (.slice Ao52 t669.length co52)) (fun _ hk => hk.2) (.slice Ao55 t675.length co55)) (fun _ h_ => h_.1)) (fun _ h_ => h_.1)) (fun _ h_ => h_.1))) (Kd.R_base ho0) hb); have n5_ := Aside0.mk (Kd.R_elder' (by (with_reducible repeat (first | apply Kd.R_alloc | apply Kd.R_drewN | apply Kd.R_drew)); exact (Kd.R_mono (Kd.R_mono (Kd.R_mono (Kd.R_far (p := ⟨gb680, 0, none⟩) (Kd.R_far (p := ⟨gb679, 0, none⟩) (Kd.R_far (p := ⟨gb678, 0, none⟩) (Kd.R_types (Kd.R_types (Kd.R_types HO677.out BK678.out (by decide)) BK679.out (by decide)) BK680.out (by decide)) (fun _ hk => hk.1.1.2) (.slice Ao48 t663.length co48)) (fun _ hk => hk.1.2) (.slice Ao52 t669.length co52)) (fun _ hk => hk.2) (.slice Ao55 t675.length co55)) (fun _ h_ => h_.1)) (fun _ h_ => h_.1)) (fun _ h_ => h_.1))) (Kd.R_base ho0) hb); have n6_ := Aside0.mk (Kd.R_lower (Kd.R_new' (Kd.R_new' (Kd.R_new' ho0 (Kd.R_lt (by (with_reducible repeat (first | apply Kd.R_alloc | apply Kd.R_drewN | apply Kd.R_drew)); exact (Kd.R_mono (Kd.R_mono (Kd.R_mono (Kd.R_far (p := ⟨gb680, 0, none⟩) (Kd.R_far (p := ⟨gb679, 0, none⟩) (Kd.R_far (p := ⟨gb678, 0, none⟩) (Kd.R_types (Kd.R_types (Kd.R_types HO665.out BK678.out (by decide)) BK679.out (by decide)) BK680.out (by decide)) (fun _ hk => hk.1.1.2) (.slice Ao48 t663.length co48)) (fun _ hk => hk.1.2) (.slice Ao52 t669.length co52)) (fun _ hk => hk.2) (.slice Ao55 t675.length co55)) (fun _ h_ => h_.1)) (fun _ h_ => h_.1)) (fun _ h_ => h_.1))))) (Kd.R_lt (by (with_reducible repeat (first | apply Kd.R_alloc | apply Kd.R_drewN | apply Kd.R_drew)); exact (Kd.R_mono (Kd.R_mono (Kd.R_mono (Kd.R_far (p := ⟨gb680, 0, none⟩) (Kd.R_far (p := ⟨gb679, 0, none⟩) (Kd.R_far (p := ⟨gb678, 0, none⟩) (Kd.R_types (Kd.R_types (Kd.R_types HO671.out BK678.out (by decide)) BK679.out (by decide)) BK680.out (by decide)) (fun _ hk => hk.1.1.2) (.slice Ao48 t663.length co48)) (fun _ hk => hk.1.2) (.slice Ao52 t669.length co52)) (fun _ hk => hk.2) (.slice Ao55 t675.length co55)) (fun _ h_ => h_.1)) (fun _ h_ => h_.1)) (fun _ h_ => h_.1))))) (Kd.R_lt (by (with_reducible repeat (first | apply Kd.R_alloc | apply Kd.R_drewN | apply Kd.R_drew)); exact (Kd.R_mono (Kd.R_mono (Kd.R_mono (Kd.R_far (p := ⟨gb680, 0, none⟩) (Kd.R_far (p := ⟨gb679, 0, none⟩) (Kd.R_far (p := ⟨gb678, 0, none⟩) (Kd.R_types (Kd.R_types (Kd.R_types HO677.out BK678.out (by decide)) BK679.out (by decide)) BK680.out (by decide)) (fun _ hk => hk.1.1.2) (.slice Ao48 t663.length co48)) (fun _ hk => hk.1.2) (.slice Ao52 t669.length co52)) (fun _ hk => hk.2) (.slice Ao55 t675.length co55)) (fun _ h_ => h_.1)) (fun _ h_ => h_.1)) (fun _ h_ => h_.1))))) (below_size (by repeat (first | (with_reducible first | exact HB.out | apply below_alloc | apply pw_below_drewN | apply below_drew1 | refine below_set ?_ GE678.out | refine below_set ?_ GE679.out | refine below_set ?_ GE680.out) | exact HB.out)))); have n7_ := Aside0.mk (blk_below (g := gb678) (o := .cells #[.slice Ao48 t663.length co48] 25 (0, 0)) (by (with_reducible repeat (first | refine blk_drewN ?_ _ | refine blk_drew ?_ | refine blk_alloc ?_ _)); refine blk_far ?_ NB678_680.out _; (with_reducible repeat (first | refine blk_drewN ?_ _ | refine blk_drew ?_ | refine blk_alloc ?_ _)); refine blk_far ?_ NB678_679.out _; (with_reducible repeat (first | refine blk_drewN ?_ _ | refine blk_drew ?_ | refine blk_alloc ?_ _)); refine blk_put (cs := #[.slice none 0 0]) ?_ 0 _ rfl; (with_reducible repeat (first | refine blk_drewN ?_ _ | refine blk_drew ?_ | refine blk_alloc ?_ _)); exact BK678.out) hb); have n8_ := Aside0.mk (blk_below (g := gb679) (o := .cells #[.slice Ao52 t669.length co52] 25 (0, 0)) (by (with_reducible repeat (first | refine blk_drewN ?_ _ | refine blk_drew ?_ | refine blk_alloc ?_ _)); refine blk_far ?_ NB679_680.out _; (with_reducible repeat (first | refine blk_drewN ?_ _ | refine blk_drew ?_ | refine blk_alloc ?_ _)); refine blk_put (cs := #[.slice none 0 0]) ?_ 0 _ rfl; (with_reducible repeat (first | refine blk_drewN ?_ _ | refine blk_drew ?_ | refine blk_alloc ?_ _)); refine blk_far ?_ NB679_678.out _; (with_reducible repeat (first | refine blk_drewN ?_ _ | refine blk_drew ?_ | refine blk_alloc ?_ _)); exact BK679.out) hb); have n9_ := Aside0.mk (blk_below (g := gb680) (o := .cells #[.slice Ao55 t675.length co55] 25 (0, 0)) (by (with_reducible repeat (first | refine blk_drewN ?_ _ | refine blk_drew ?_ | refine blk_alloc ?_ _)); refine blk_put (cs := #[.slice none 0 0]) ?_ 0 _ rfl; (with_reducible repeat (first | refine blk_drewN ?_ _ | refine blk_drew ?_ | refine blk_alloc ?_ _)); refine blk_far ?_ NB680_679.out _; (with_reducible repeat (first | refine blk_drewN ?_ _ | refine blk_drew ?_ | refine blk_alloc ?_ _)); refine blk_far ?_ NB680_678.out _; (with_reducible repeat (first | refine blk_drewN ?_ _ | refine blk_drew ?_ | refine blk_alloc ?_ _)); exact BK680.out) hb); have n10_ := Aside0.mk (below_step (by repeat (first | (with_reducible first | exact HB.out | apply below_alloc | apply pw_below_drewN | apply below_drew1 | refine below_set ?_ GE678.out | refine below_set ?_ GE679.out | refine below_set ?_ GE680.out) | exact HB.out)) hb); clear HO662; clear HO665; clear HO668; clear HO671; clear HO674; clear HO677; clear BK678; clear BK679; clear BK680; clear HB; have HO662 := n0_; have HO665 := n1_; have HO668 := n2_; have HO671 := n3_; have HO674 := n4_; have HO677 := n5_; have HO683 := n6_; have BK678 := n7_; have BK679 := n8_; have BK680 := n9_; have HB := n10_; clear n0_ n1_ n2_ n3_ n4_ n5_ n6_ n7_ n8_ n9_ n10_; (try clear hb); (try clear hb2); (try clear hk); (try clear hi); (try clear ho0)) | ((with_reducible refine gate_dst (N := 10) rfl ?_); refine box_event ?hg (N := 10) ?hd (cs := #[.slice none 0 0]) (t := 25) ?hr ?_; (case hd => rfl); (case hg => rfl); (case hr => first | (go_simp; done) | (go_simp; rfl)); intro gb684 hg w58 hbox hb; have n0_ := Aside0.mk (Kd.V_below (Kd.V_elderB (by (with_reducible repeat (first | apply Kd.V_alloc | apply Kd.V_drewN | apply Kd.V_drew)); exact HO662.out) gb684 (Nat.le_of_eq hg.symm)) hb); have n1_ := Aside0.mk (Kd.R_below (by (with_reducible repeat (first | apply Kd.R_alloc | apply Kd.R_drewN | apply Kd.R_drew)); exact HO665.out) hb); have n2_ := Aside0.mk (Kd.V_below (Kd.V_elderB (by (with_reducible repeat (first | apply Kd.V_alloc | apply Kd.V_drewN | apply Kd.V_drew)); exact HO668.out) gb684 (Nat.le_of_eq hg.symm)) hb); have n3_ := Aside0.mk (Kd.R_below (by (with_reducible repeat (first | apply Kd.R_alloc | apply Kd.R_drewN | apply Kd.R_drew)); exact HO671.out) hb); have n4_ := Aside0.mk (Kd.V_below (Kd.V_elderB (by (with_reducible repeat (first | apply Kd.V_alloc | apply Kd.V_drewN | apply Kd.V_drew)); exact HO674.out) gb684 (Nat.le_of_eq hg.symm)) hb); have n5_ := Aside0.mk (Kd.R_below (by (with_reducible repeat (first | apply Kd.R_alloc | apply Kd.R_drewN | apply Kd.R_drew)); exact HO677.out) hb); have n6_ := Aside0.mk (Kd.R_below (by (with_reducible repeat (first | apply Kd.R_alloc | apply Kd.R_drewN | apply Kd.R_drew)); exact HO683.out) hb); have n7_ := Aside0.mk (blk_below (g := gb678) (o := .cells #[.slice Ao48 t663.length co48] 25 (0, 0)) (by (with_reducible repeat (first | refine blk_drewN ?_ _ | refine blk_drew ?_ | refine blk_alloc ?_ _)); exact BK678.out) hb); have n8_ := Aside0.mk (blk_below (g := gb679) (o := .cells #[.slice Ao52 t669.length co52] 25 (0, 0)) (by (with_reducible repeat (first | refine blk_drewN ?_ _ | refine blk_drew ?_ | refine blk_alloc ?_ _)); exact BK679.out) hb); have n9_ := Aside0.mk (blk_below (g := gb680) (o := .cells #[.slice Ao55 t675.length co55] 25 (0, 0)) (by (with_reducible repeat (first | refine blk_drewN ?_ _ | refine blk_drew ?_ | refine blk_alloc ?_ _)); exact BK680.out) hb); have n10_ := Aside0.mk (below_step (by repeat (first | (with_reducible first | exact HB.out | apply below_alloc | apply pw_below_drewN | apply below_drew1 | refine below_set ?_ GE678.out | refine below_set ?_ GE679.out | refine below_set ?_ GE680.out) | exact HB.out)) hb); have n11_ := Aside0.mk (hbox); have n12_ := Aside0.mk ((by rw [hg]; exact (below_size (by repeat (first | (with_reducible first | exact HB.out | apply below_alloc | apply pw_below_drewN | apply below_drew1 | refine below_set ?_ GE678.out | refine below_set ?_ GE679.out | refine below_set ?_ GE680.out) | exact HB.out))) : w.heap.size ≤ gb684)); have n13_ := Aside0.mk ((by rw [hg]; exact (below_size (by repeat (first | (with_reducible first | exact HB.out | apply below_alloc | apply pw_below_drewN | apply below_drew1 | refine below_set ?_ GE678.out | refine below_set ?_ GE679.out | refine below_set ?_ GE680.out) | exact HB.out))) : w.heap.size ≤ gb684)); have n14_ := Aside0.mk ((by rw [hg]; exact Nat.ne_of_lt (blk_lt (g := gb678) (o := .cells #[.slice Ao48 t663.length co48] 25 (0, 0)) (by (with_reducible repeat (first | refine blk_drewN ?_ _ | refine blk_drew ?_ | refine blk_alloc ?_ _)); exact BK678.out)) : gb678 ≠ gb684)); have n15_ := Aside0.mk ((by rw [hg]; exact Nat.ne_of_gt (blk_lt (g := gb678) (o := .cells #[.slice Ao48 t663.length co48] 25 (0, 0)) (by (with_reducible repeat (first | refine blk_drewN ?_ _ | refine blk_drew ?_ | refine blk_alloc ?_ _)); exact BK678.out)) : gb684 ≠ gb678)); have n16_ := Aside0.mk ((by rw [hg]; exact Nat.ne_of_lt (blk_lt (g := gb679) (o := .cells #[.slice Ao52 t669.length co52] 25 (0, 0)) (by (with_reducible repeat (first | refine blk_drewN ?_ _ | refine blk_drew ?_ | refine blk_alloc ?_ _)); exact BK679.out)) : gb679 ≠ gb684)); have n17_ := Aside0.mk ((by rw [hg]; exact Nat.ne_of_gt (blk_lt (g := gb679) (o := .cells #[.slice Ao52 t669.length co52] 25 (0, 0)) (by (with_reducible repeat (first | refine blk_drewN ?_ _ | refine blk_drew ?_ | refine blk_alloc ?_ _)); exact BK679.out)) : gb684 ≠ gb679)); have n18_ := Aside0.mk ((by rw [hg]; exact Nat.ne_of_lt (blk_lt (g := gb680) (o := .cells #[.slice Ao55 t675.length co55] 25 (0, 0)) (by (with_reducible repeat (first | refine blk_drewN ?_ _ | refine blk_drew ?_ | refine blk_alloc ?_ _)); exact BK680.out)) : gb680 ≠ gb684)); have n19_ := Aside0.mk ((by rw [hg]; exact Nat.ne_of_gt (blk_lt (g := gb680) (o := .cells #[.slice Ao55 t675.length co55] 25 (0, 0)) (by (with_reducible repeat (first | refine blk_drewN ?_ _ | refine blk_drew ?_ | refine blk_alloc ?_ _)); exact BK680.out)) : gb684 ≠ gb680)); clear HO662; clear HO665; clear HO668; clear HO671; clear HO674; clear HO677; clear HO683; clear BK678; clear BK679; clear BK680; clear HB; have HO662 := n0_; have HO665 := n1_; have HO668 := n2_; have HO671 := n3_; have HO674 := n4_; have HO677 := n5_; have HO683 := n6_; have BK678 := n7_; have BK679 := n8_; have BK680 := n9_; have HB := n10_; have BK684 := n11_; have GW684 := n12_; have GE684 := n13_; have NB678_684 := n14_; have NB684_678 := n15_; have NB679_684 := n16_; have NB684_679 := n17_; have NB680_684 := n18_; have NB684_680 := n19_; clear n0_ n1_ n2_ n3_ n4_ n5_ n6_ n7_ n8_ n9_ n10_ n11_ n12_ n13_ n14_ n15_ n16_ n17_ n18_ n19_; clear hb hbox hg; obtain ⟨Ao59, co59, eo59⟩ := Kd.R_slice HO683.out; subst eo59; have hnb60 := NB684_678.out; have hnc60 := NB678_684.out; have hnb61 := NB684_679.out; have hnc61 := NB679_684.out; have hnb62 := NB684_680.out; have hnc62 := NB680_684.out; have hcz63_0 : w58.cell? ⟨gb684, 0, none⟩ = some (.slice none 0 0) := (blk_cell BK684.out 0).trans rfl; have hfz63_0 := blk_frozen BK684.out 0))
            have n0_ : Aside0 (Kd.V (Kd.int .u32) 23 (w58.setCell ⟨gb684, 0, none⟩ (.slice Ao59 t681.length co59)) w.heap.size (fun k_ => some k_ ≠ (.slice Ao48 t663.length co48 : Value).ownBlock ∧ some k_ ≠ (.slice Ao52 t669.length co52 : Value).ownBlock ∧ some k_ ≠ (.slice Ao55 t675.length co55 : Value).ownBlock ∧ some k_ ≠ (.slice Ao59 t681.length co59 : Value).ownBlock ∧ k_ ≠ gb678 ∧ k_ ≠ gb679 ∧ k_ ≠ gb680 ∧ k_ ≠ gb684) (.slice Ao37 t660.length co37) t660) := ⟨by (with_reducible repeat (first | apply Kd.V_alloc | apply Kd.V_drewN | apply Kd.V_drew)); exact Kd.V_mono (Kd.V_far (p := ⟨gb684, 0, none⟩) (Kd.V_mono HO662.out (fun k_ hk => (⟨hk, hk.2⟩ : _ ∧ k_ ≠ gb684))) (fun _ hk => hk.2) (.slice Ao59 t681.length co59)) (fun _ hk => ⟨hk.1.1.1.1.1.1.1.1.2, ⟨hk.1.1.1.1.1.1.1.2, ⟨hk.1.1.1.1.1.1.2, ⟨hk.1.1.2, ⟨hk.1.1.1.1.1.2, ⟨hk.1.1.1.1.2, ⟨hk.1.1.1.2, hk.1.2⟩⟩⟩⟩⟩⟩⟩)⟩
            have n1_ : Aside0 (Kd.R (Kd.int .u32) 23 (w58.setCell ⟨gb684, 0, none⟩ (.slice Ao59 t681.length co59)) w.heap.size (fun k_ => some k_ ≠ (.slice Ao52 t669.length co52 : Value).ownBlock ∧ some k_ ≠ (.slice Ao55 t675.length co55 : Value).ownBlock ∧ some k_ ≠ (.slice Ao59 t681.length co59 : Value).ownBlock) (.slice Ao48 t663.length co48) t663) := ⟨by (with_reducible repeat (first | apply Kd.R_alloc | apply Kd.R_drewN | apply Kd.R_drew)); exact Kd.R_mono (Kd.R_far (p := ⟨gb684, 0, none⟩) (Kd.R_types HO665.out BK684.out (by decide)) (fun _ hk => hk.2) (.slice Ao59 t681.length co59)) (fun _ hk => ⟨hk.1.1.1.2, ⟨hk.1.1.2, hk.1.2⟩⟩)⟩
            have n2_ : Aside0 (Kd.V (Kd.int .u32) 23 (w58.setCell ⟨gb684, 0, none⟩ (.slice Ao59 t681.length co59)) w.heap.size (fun k_ => some k_ ≠ (.slice Ao48 t663.length co48 : Value).ownBlock ∧ some k_ ≠ (.slice Ao52 t669.length co52 : Value).ownBlock ∧ some k_ ≠ (.slice Ao55 t675.length co55 : Value).ownBlock ∧ some k_ ≠ (.slice Ao59 t681.length co59 : Value).ownBlock ∧ k_ ≠ gb678 ∧ k_ ≠ gb679 ∧ k_ ≠ gb680 ∧ k_ ≠ gb684) (.slice Ao40 t666.length co40) t666) := ⟨by (with_reducible repeat (first | apply Kd.V_alloc | apply Kd.V_drewN | apply Kd.V_drew)); exact Kd.V_mono (Kd.V_far (p := ⟨gb684, 0, none⟩) (Kd.V_mono HO668.out (fun k_ hk => (⟨hk, hk.2⟩ : _ ∧ k_ ≠ gb684))) (fun _ hk => hk.2) (.slice Ao59 t681.length co59)) (fun _ hk => ⟨hk.1.1.1.1.1.1.1.1, ⟨hk.1.1.1.1.1.1.1.2, ⟨hk.1.1.1.1.1.1.2, ⟨hk.1.1.2, ⟨hk.1.1.1.1.1.2, ⟨hk.1.1.1.1.2, ⟨hk.1.1.1.2, hk.1.2⟩⟩⟩⟩⟩⟩⟩)⟩
            have n3_ : Aside0 (Kd.R (Kd.int .u32) 23 (w58.setCell ⟨gb684, 0, none⟩ (.slice Ao59 t681.length co59)) w.heap.size (fun k_ => some k_ ≠ (.slice Ao48 t663.length co48 : Value).ownBlock ∧ some k_ ≠ (.slice Ao55 t675.length co55 : Value).ownBlock ∧ some k_ ≠ (.slice Ao59 t681.length co59 : Value).ownBlock) (.slice Ao52 t669.length co52) t669) := ⟨by (with_reducible repeat (first | apply Kd.R_alloc | apply Kd.R_drewN | apply Kd.R_drew)); exact Kd.R_mono (Kd.R_far (p := ⟨gb684, 0, none⟩) (Kd.R_types HO671.out BK684.out (by decide)) (fun _ hk => hk.2) (.slice Ao59 t681.length co59)) (fun _ hk => ⟨hk.1.1.1.2, ⟨hk.1.1.2, hk.1.2⟩⟩)⟩
            have n4_ : Aside0 (Kd.V (Kd.int .u32) 23 (w58.setCell ⟨gb684, 0, none⟩ (.slice Ao59 t681.length co59)) w.heap.size (fun k_ => some k_ ≠ (.slice Ao48 t663.length co48 : Value).ownBlock ∧ some k_ ≠ (.slice Ao52 t669.length co52 : Value).ownBlock ∧ some k_ ≠ (.slice Ao55 t675.length co55 : Value).ownBlock ∧ some k_ ≠ (.slice Ao59 t681.length co59 : Value).ownBlock ∧ k_ ≠ gb678 ∧ k_ ≠ gb679 ∧ k_ ≠ gb680 ∧ k_ ≠ gb684) (.slice Ao43 t672.length co43) t672) := ⟨by (with_reducible repeat (first | apply Kd.V_alloc | apply Kd.V_drewN | apply Kd.V_drew)); exact Kd.V_mono (Kd.V_far (p := ⟨gb684, 0, none⟩) (Kd.V_mono HO674.out (fun k_ hk => (⟨hk, hk.2⟩ : _ ∧ k_ ≠ gb684))) (fun _ hk => hk.2) (.slice Ao59 t681.length co59)) (fun _ hk => ⟨hk.1.1.1.1.1.1.1.1, ⟨hk.1.1.1.1.1.1.1.2, ⟨hk.1.1.1.1.1.1.2, ⟨hk.1.1.2, ⟨hk.1.1.1.1.1.2, ⟨hk.1.1.1.1.2, ⟨hk.1.1.1.2, hk.1.2⟩⟩⟩⟩⟩⟩⟩)⟩
            have n5_ : Aside0 (Kd.R (Kd.int .u32) 23 (w58.setCell ⟨gb684, 0, none⟩ (.slice Ao59 t681.length co59)) w.heap.size (fun k_ => some k_ ≠ (.slice Ao48 t663.length co48 : Value).ownBlock ∧ some k_ ≠ (.slice Ao52 t669.length co52 : Value).ownBlock ∧ some k_ ≠ (.slice Ao59 t681.length co59 : Value).ownBlock) (.slice Ao55 t675.length co55) t675) := ⟨by (with_reducible repeat (first | apply Kd.R_alloc | apply Kd.R_drewN | apply Kd.R_drew)); exact Kd.R_mono (Kd.R_far (p := ⟨gb684, 0, none⟩) (Kd.R_types HO677.out BK684.out (by decide)) (fun _ hk => hk.2) (.slice Ao59 t681.length co59)) (fun _ hk => ⟨hk.1.1.1.2, ⟨hk.1.1.2, hk.1.2⟩⟩)⟩
            have n6_ : Aside0 (Kd.R (Kd.int .u32) 23 (w58.setCell ⟨gb684, 0, none⟩ (.slice Ao59 t681.length co59)) w.heap.size (fun k_ => some k_ ≠ (.slice Ao48 t663.length co48 : Value).ownBlock ∧ some k_ ≠ (.slice Ao52 t669.length co52 : Value).ownBlock ∧ some k_ ≠ (.slice Ao55 t675.length co55 : Value).ownBlock) (.slice Ao59 t681.length co59) t681) := ⟨by (with_reducible repeat (first | apply Kd.R_alloc | apply Kd.R_drewN | apply Kd.R_drew)); exact Kd.R_mono (Kd.R_far (p := ⟨gb684, 0, none⟩) (Kd.R_types HO683.out BK684.out (by decide)) (fun _ hk => hk.2) (.slice Ao59 t681.length co59)) (fun _ hk => ⟨hk.1.1.1.2, ⟨hk.1.1.2, hk.1.2⟩⟩)⟩
            have n7_ : Aside0 ((w58.setCell ⟨gb684, 0, none⟩ (.slice Ao59 t681.length co59)).heap[gb678]? = some (.cells #[.slice Ao48 t663.length co48] 25 (0, 0))) := ⟨by (with_reducible repeat (first | refine blk_drewN ?_ _ | refine blk_drew ?_ | refine blk_alloc ?_ _)); refine blk_far ?_ NB678_684.out _; (with_reducible repeat (first | refine blk_drewN ?_ _ | refine blk_drew ?_ | refine blk_alloc ?_ _)); exact BK678.out⟩
            have n8_ : Aside0 ((w58.setCell ⟨gb684, 0, none⟩ (.slice Ao59 t681.length co59)).heap[gb679]? = some (.cells #[.slice Ao52 t669.length co52] 25 (0, 0))) := ⟨by (with_reducible repeat (first | refine blk_drewN ?_ _ | refine blk_drew ?_ | refine blk_alloc ?_ _)); refine blk_far ?_ NB679_684.out _; (with_reducible repeat (first | refine blk_drewN ?_ _ | refine blk_drew ?_ | refine blk_alloc ?_ _)); exact BK679.out⟩
            have n9_ : Aside0 ((w58.setCell ⟨gb684, 0, none⟩ (.slice Ao59 t681.length co59)).heap[gb680]? = some (.cells #[.slice Ao55 t675.length co55] 25 (0, 0))) := ⟨by (with_reducible repeat (first | refine blk_drewN ?_ _ | refine blk_drew ?_ | refine blk_alloc ?_ _)); refine blk_far ?_ NB680_684.out _; (with_reducible repeat (first | refine blk_drewN ?_ _ | refine blk_drew ?_ | refine blk_alloc ?_ _)); exact BK680.out⟩
            have n10_ : Aside0 ((w58.setCell ⟨gb684, 0, none⟩ (.slice Ao59 t681.length co59)).heap[gb684]? = some (.cells #[.slice Ao59 t681.length co59] 25 (0, 0))) := ⟨by (with_reducible repeat (first | refine blk_drewN ?_ _ | refine blk_drew ?_ | refine blk_alloc ?_ _)); refine blk_put (cs := #[.slice none 0 0]) ?_ 0 _ rfl; (with_reducible repeat (first | refine blk_drewN ?_ _ | refine blk_drew ?_ | refine blk_alloc ?_ _)); exact BK684.out⟩
            have n11_ : Aside0 (Below w.heap.size w (w58.setCell ⟨gb684, 0, none⟩ (.slice Ao59 t681.length co59))) := ⟨by repeat (first | (with_reducible first | exact HB.out | apply below_alloc | apply pw_below_drewN | apply below_drew1 | refine below_set ?_ GE678.out | refine below_set ?_ GE679.out | refine below_set ?_ GE680.out | refine below_set ?_ GE684.out) | exact HB.out)⟩
            (try clear HO662)
            (try clear HO665)
            (try clear HO668)
            (try clear HO671)
            (try clear HO674)
            (try clear HO677)
            (try clear HO683)
            (try clear BK678)
            (try clear BK679)
            (try clear BK680)
            (try clear BK684)
            (try clear HB)
            generalize (w58.setCell ⟨gb684, 0, none⟩ (.slice Ao59 t681.length co59)) = w64 at n0_ n1_ n2_ n3_ n4_ n5_ n6_ n7_ n8_ n9_ n10_ n11_ ⊢
            have HO662 := n0_
            have HO665 := n1_
            have HO668 := n2_
            have HO671 := n3_
            have HO674 := n4_
            have HO677 := n5_
            have HO683 := n6_
            have BK678 := n7_
            have BK679 := n8_
            have BK680 := n9_
            have BK684 := n10_
            have HB := n11_
            clear n0_ n1_ n2_ n3_ n4_ n5_ n6_ n7_ n8_ n9_ n10_ n11_
            have n0_ := Aside0.mk (Kd.V_drew HO662.out)
            have n1_ := Aside0.mk (Kd.R_drew HO665.out)
            have n2_ := Aside0.mk (Kd.V_drew HO668.out)
            have n3_ := Aside0.mk (Kd.R_drew HO671.out)
            have n4_ := Aside0.mk (Kd.V_drew HO674.out)
            have n5_ := Aside0.mk (Kd.R_drew HO677.out)
            have n6_ := Aside0.mk (Kd.R_drew HO683.out)
            have n7_ := Aside0.mk (blk_drew BK678.out)
            have n8_ := Aside0.mk (blk_drew BK679.out)
            have n9_ := Aside0.mk (blk_drew BK680.out)
            have n10_ := Aside0.mk (blk_drew BK684.out)
            have n11_ := Aside0.mk (below_drew1 HB.out)
            clear HO662
            clear HO665
            clear HO668
            clear HO671
            clear HO674
            clear HO677
            clear HO683
            clear BK678
            clear BK679
            clear BK680
            clear BK684
            clear HB
            have HO662 := n0_
            have HO665 := n1_
            have HO668 := n2_
            have HO671 := n3_
            have HO674 := n4_
            have HO677 := n5_
            have HO683 := n6_
            have BK678 := n7_
            have BK679 := n8_
            have BK680 := n9_
            have BK684 := n10_
            have HB := n11_
            clear n0_ n1_ n2_ n3_ n4_ n5_ n6_ n7_ n8_ n9_ n10_ n11_
            refine start_ (n := 60) (S := fun w' => w'.cell? ⟨gb684, 0, none⟩ = some (.slice Ao59 t681.length co59) ∧ w'.cell? ⟨gb679, 0, none⟩ = some (.slice Ao52 t669.length co52) ∧ w'.cell? ⟨gb678, 0, none⟩ = some (.slice Ao48 t663.length co48) ∧ w'.cell? ⟨gb680, 0, none⟩ = some (.slice Ao55 t675.length co55)) (ds := []) #[false, false, false, false, false, false, false, false, false, false, false, false, false, false, false, false, false, false, false, false, false, false, false, false, false, false, false, false, false, false, false, false, false, false, false, false, false, false, false, false, false, false, false, false, false, false, false, false, false, false, false, false, false, false, false, false, false, false, false, false] (by kernel_rfl) rfl rfl ⟨(blk_cell BK684.out 0).trans rfl, (blk_cell BK679.out 0).trans rfl, (blk_cell BK678.out 0).trans rfl, (blk_cell BK680.out 0).trans rfl⟩ (fun hHeld => ?_); refine with_tabW numerarylaw03_TimesLaws.tab4 numerarylaw03_TimesLaws.bits4 (fun HT_ HW_ => ?_)
            generalize w64.drew = w65 at HO662 HO665 HO668 HO671 HO674 HO677 HO683 BK678 BK679 BK680 BK684 HB hHeld ⊢
            refine one_ (i := 0) (N := some 27) #[true, false, false, false, false, false, false, false, false, false, false, false, false, false, false, false, false, false, false, false, false, false, false, false, false, false, false, false, false, false, false, false, false, false, false, false, false, false, false, false, false, false, false, false, false, false, false, false, false, false, false, false, false, false, false, false, false, false, false, false] rfl rfl (one_of HT_.out (by kernel_rfl)) (by decide) (fun K hK => ?_)
            refine goes_ Try.func21 (by kernel_rfl) rfl #[] (by rfl) rfl rfl (by (try simp only [List.map_toArray, List.map_cons, List.map_nil]); first | done | rfl | (simp only [List.length_drop, List.length_take]; rfl)) ?_
            with_reducible refine (numerarylaw03_wakes.calls k  true _ A11.out).mono ?_
            rintro e w66 ⟨rfl, hb⟩
            refine ⟨_, rfl, ?_⟩
            have n0_ := Aside0.mk (Kd.V_below (by (with_reducible repeat (first | apply Kd.V_alloc | apply Kd.V_drewN | apply Kd.V_drew)); exact HO662.out) hb)
            have n1_ := Aside0.mk (Kd.R_below (by (with_reducible repeat (first | apply Kd.R_alloc | apply Kd.R_drewN | apply Kd.R_drew)); exact HO665.out) hb)
            have n2_ := Aside0.mk (Kd.V_below (by (with_reducible repeat (first | apply Kd.V_alloc | apply Kd.V_drewN | apply Kd.V_drew)); exact HO668.out) hb)
            have n3_ := Aside0.mk (Kd.R_below (by (with_reducible repeat (first | apply Kd.R_alloc | apply Kd.R_drewN | apply Kd.R_drew)); exact HO671.out) hb)
            have n4_ := Aside0.mk (Kd.V_below (by (with_reducible repeat (first | apply Kd.V_alloc | apply Kd.V_drewN | apply Kd.V_drew)); exact HO674.out) hb)
            have n5_ := Aside0.mk (Kd.R_below (by (with_reducible repeat (first | apply Kd.R_alloc | apply Kd.R_drewN | apply Kd.R_drew)); exact HO677.out) hb)
            have n6_ := Aside0.mk (Kd.R_below (by (with_reducible repeat (first | apply Kd.R_alloc | apply Kd.R_drewN | apply Kd.R_drew)); exact HO683.out) hb)
            have n7_ := Aside0.mk (blk_below (g := gb678) (o := .cells #[.slice Ao48 t663.length co48] 25 (0, 0)) (by (with_reducible repeat (first | refine blk_drewN ?_ _ | refine blk_drew ?_ | refine blk_alloc ?_ _)); exact BK678.out) hb)
            have n8_ := Aside0.mk (blk_below (g := gb679) (o := .cells #[.slice Ao52 t669.length co52] 25 (0, 0)) (by (with_reducible repeat (first | refine blk_drewN ?_ _ | refine blk_drew ?_ | refine blk_alloc ?_ _)); exact BK679.out) hb)
            have n9_ := Aside0.mk (blk_below (g := gb680) (o := .cells #[.slice Ao55 t675.length co55] 25 (0, 0)) (by (with_reducible repeat (first | refine blk_drewN ?_ _ | refine blk_drew ?_ | refine blk_alloc ?_ _)); exact BK680.out) hb)
            have n10_ := Aside0.mk (blk_below (g := gb684) (o := .cells #[.slice Ao59 t681.length co59] 25 (0, 0)) (by (with_reducible repeat (first | refine blk_drewN ?_ _ | refine blk_drew ?_ | refine blk_alloc ?_ _)); exact BK684.out) hb)
            have n11_ := Aside0.mk (below_step (by repeat (first | (with_reducible first | exact HB.out | apply below_alloc | apply pw_below_drewN | apply below_drew1 | refine below_set ?_ GE678.out | refine below_set ?_ GE679.out | refine below_set ?_ GE680.out | refine below_set ?_ GE684.out) | exact HB.out)) hb)
            clear HO662
            clear HO665
            clear HO668
            clear HO671
            clear HO674
            clear HO677
            clear HO683
            clear BK678
            clear BK679
            clear BK680
            clear BK684
            clear HB
            have HO662 := n0_
            have HO665 := n1_
            have HO668 := n2_
            have HO671 := n3_
            have HO674 := n4_
            have HO677 := n5_
            have HO683 := n6_
            have BK678 := n7_
            have BK679 := n8_
            have BK680 := n9_
            have BK684 := n10_
            have HB := n11_
            clear n0_ n1_ n2_ n3_ n4_ n5_ n6_ n7_ n8_ n9_ n10_ n11_
            (try clear hb)
            (try clear hb2)
            (try clear hk)
            (try clear hi)
            refine hK.out _ _ ⟨(blk_cell BK684.out 0).trans rfl, (blk_cell BK679.out 0).trans rfl, (blk_cell BK678.out 0).trans rfl, (blk_cell BK680.out 0).trans rfl⟩ (fun hHeld => ?_)
            clear hK K
            refine norm_ (a' := ?_) ?_ ?_
            rotate_left
            · show Act.put _ (some 27) _ = _
              simp only [Act.put, List.setIfInBounds_toArray, List.set_cons_zero, List.set_cons_succ, i64_w, i32_w]
              rfl
            refine pure_ (i := 1) (N := some 28) (v := ?_) (a' := ?_) #[true, true, false, false, false, false, false, false, false, false, false, false, false, false, false, false, false, false, false, false, false, false, false, false, false, false, false, false, false, false, false, false, false, false, false, false, false, false, false, false, false, false, false, false, false, false, false, false, false, false, false, false, false, false, false, false, false, false, false, false] rfl rfl (any_of HT_.out (by kernel_rfl)) (fun _ _ _ h => h) (Or.inl ⟨by rfl, ?_⟩) ?_ ?_
            rotate_left
            · intro w'
              go_simp
              with_reducible rfl
            rotate_left
            · simp only [Act.put, List.setIfInBounds_toArray, List.set_cons_zero, List.set_cons_succ, i64_w, i32_w]
              rfl
            refine take_ (i := 2) (N := some 29) (v := ?_) (a' := ?_) #[true, true, true, false, false, false, false, false, false, false, false, false, false, false, false, false, false, false, false, false, false, false, false, false, false, false, false, false, false, false, false, false, false, false, false, false, false, false, false, false, false, false, false, false, false, false, false, false, false, false, false, false, false, false, false, false, false, false, false, false] rfl rfl (take_ofW HT_.out HW_.out (by kernel_rfl)) (fun _ _ _ h => h) (Or.inl ⟨by rfl, ?_⟩) hHeld ?_ ?_
            rotate_left
            · rintro w' ⟨s0, s1, s2, s3⟩
              go_simp
              with_reducible rfl
            rotate_left
            · simp only [Act.put, List.setIfInBounds_toArray, List.set_cons_zero, List.set_cons_succ, i64_w, i32_w]
              rfl
            refine take_ (i := 3) (N := some 30) (v := ?_) (a' := ?_) #[true, true, true, true, false, false, false, false, false, false, false, false, false, false, false, false, false, false, false, false, false, false, false, false, false, false, false, false, false, false, false, false, false, false, false, false, false, false, false, false, false, false, false, false, false, false, false, false, false, false, false, false, false, false, false, false, false, false, false, false] rfl rfl (take_ofW HT_.out HW_.out (by kernel_rfl)) (fun _ _ _ h => h) (Or.inl ⟨by rfl, ?_⟩) hHeld ?_ ?_
            rotate_left
            · rintro w' ⟨s0, s1, s2, s3⟩
              go_simp
              with_reducible rfl
            rotate_left
            · simp only [Act.put, List.setIfInBounds_toArray, List.set_cons_zero, List.set_cons_succ, i64_w, i32_w]
              rfl
            refine take_ (i := 4) (N := some 31) (v := ?_) (a' := ?_) #[true, true, true, true, true, false, false, false, false, false, false, false, false, false, false, false, false, false, false, false, false, false, false, false, false, false, false, false, false, false, false, false, false, false, false, false, false, false, false, false, false, false, false, false, false, false, false, false, false, false, false, false, false, false, false, false, false, false, false, false] rfl rfl (take_ofW HT_.out HW_.out (by kernel_rfl)) (fun _ _ _ h => h) (Or.inl ⟨by rfl, ?_⟩) hHeld ?_ ?_
            rotate_left
            · rintro w' ⟨s0, s1, s2, s3⟩
              go_simp
              with_reducible rfl
            rotate_left
            · simp only [Act.put, List.setIfInBounds_toArray, List.set_cons_zero, List.set_cons_succ, i64_w, i32_w]
              rfl
            refine one_ (i := 5) (N := some 32) #[true, true, true, true, true, true, false, false, false, false, false, false, false, false, false, false, false, false, false, false, false, false, false, false, false, false, false, false, false, false, false, false, false, false, false, false, false, false, false, false, false, false, false, false, false, false, false, false, false, false, false, false, false, false, false, false, false, false, false, false] rfl rfl (one_of HT_.out (by kernel_rfl)) (by decide) (fun K hK => ?_)
            refine goes_ Try.func24 (by kernel_rfl) rfl #[.agg #[.slice Ao52 t669.length co52], .agg #[.slice Ao48 t663.length co48]] (by rfl) rfl rfl (by (try simp only [List.map_toArray, List.map_cons, List.map_nil]); first | done | rfl | (simp only [List.length_drop, List.length_take]; rfl)) ?_
            with_reducible refine (times_Mul.calls k _ _ t669 _ _ t663 t686 _ ?side1 ?side2 ?side3 ?side4 A13.out).mono ?_
            (case side1 => repeat (first | exact (Kd.R_reads' HO671.out).2.2 | (with_reducible refine Kd.C_alloc ?_ _) | (with_reducible refine Kd.C_drewN ?_ _) | (with_reducible refine Kd.C_drew ?_)))
            (case side2 => exact (Kd.R_reads' HO671.out).2.1)
            (case side3 => repeat (first | exact (Kd.R_reads' HO665.out).2.2 | (with_reducible refine Kd.C_alloc ?_ _) | (with_reducible refine Kd.C_drewN ?_ _) | (with_reducible refine Kd.C_drew ?_)))
            (case side4 => exact (Kd.R_reads' HO665.out).2.1)
            rintro e w67 ⟨v687, rfl, ho0, hb⟩
            refine ⟨_, rfl, ?_⟩
            have n0_ := Aside0.mk (Kd.V_elder' (by (with_reducible repeat (first | apply Kd.V_alloc | apply Kd.V_drewN | apply Kd.V_drew)); exact HO662.out) (Kd.R_base ho0) hb)
            have n1_ := Aside0.mk (Kd.R_elder' (by (with_reducible repeat (first | apply Kd.R_alloc | apply Kd.R_drewN | apply Kd.R_drew)); exact HO665.out) (Kd.R_base ho0) hb)
            have n2_ := Aside0.mk (Kd.V_elder' (by (with_reducible repeat (first | apply Kd.V_alloc | apply Kd.V_drewN | apply Kd.V_drew)); exact HO668.out) (Kd.R_base ho0) hb)
            have n3_ := Aside0.mk (Kd.R_elder' (by (with_reducible repeat (first | apply Kd.R_alloc | apply Kd.R_drewN | apply Kd.R_drew)); exact HO671.out) (Kd.R_base ho0) hb)
            have n4_ := Aside0.mk (Kd.V_elder' (by (with_reducible repeat (first | apply Kd.V_alloc | apply Kd.V_drewN | apply Kd.V_drew)); exact HO674.out) (Kd.R_base ho0) hb)
            have n5_ := Aside0.mk (Kd.R_elder' (by (with_reducible repeat (first | apply Kd.R_alloc | apply Kd.R_drewN | apply Kd.R_drew)); exact HO677.out) (Kd.R_base ho0) hb)
            have n6_ := Aside0.mk (Kd.R_elder' (by (with_reducible repeat (first | apply Kd.R_alloc | apply Kd.R_drewN | apply Kd.R_drew)); exact HO683.out) (Kd.R_base ho0) hb)
            have n7_ := Aside0.mk (Kd.R_lower (Kd.R_new' (Kd.R_new' (Kd.R_new' (Kd.R_new' ho0 (Kd.R_lt (by (with_reducible repeat (first | apply Kd.R_alloc | apply Kd.R_drewN | apply Kd.R_drew)); exact HO665.out))) (Kd.R_lt (by (with_reducible repeat (first | apply Kd.R_alloc | apply Kd.R_drewN | apply Kd.R_drew)); exact HO671.out))) (Kd.R_lt (by (with_reducible repeat (first | apply Kd.R_alloc | apply Kd.R_drewN | apply Kd.R_drew)); exact HO677.out))) (Kd.R_lt (by (with_reducible repeat (first | apply Kd.R_alloc | apply Kd.R_drewN | apply Kd.R_drew)); exact HO683.out))) (below_size (by repeat (first | (with_reducible first | exact HB.out | apply below_alloc | apply pw_below_drewN | apply below_drew1 | refine below_set ?_ GE678.out | refine below_set ?_ GE679.out | refine below_set ?_ GE680.out | refine below_set ?_ GE684.out) | exact HB.out))))
            have n8_ := Aside0.mk (blk_below (g := gb678) (o := .cells #[.slice Ao48 t663.length co48] 25 (0, 0)) (by (with_reducible repeat (first | refine blk_drewN ?_ _ | refine blk_drew ?_ | refine blk_alloc ?_ _)); exact BK678.out) hb)
            have n9_ := Aside0.mk (blk_below (g := gb679) (o := .cells #[.slice Ao52 t669.length co52] 25 (0, 0)) (by (with_reducible repeat (first | refine blk_drewN ?_ _ | refine blk_drew ?_ | refine blk_alloc ?_ _)); exact BK679.out) hb)
            have n10_ := Aside0.mk (blk_below (g := gb680) (o := .cells #[.slice Ao55 t675.length co55] 25 (0, 0)) (by (with_reducible repeat (first | refine blk_drewN ?_ _ | refine blk_drew ?_ | refine blk_alloc ?_ _)); exact BK680.out) hb)
            have n11_ := Aside0.mk (blk_below (g := gb684) (o := .cells #[.slice Ao59 t681.length co59] 25 (0, 0)) (by (with_reducible repeat (first | refine blk_drewN ?_ _ | refine blk_drew ?_ | refine blk_alloc ?_ _)); exact BK684.out) hb)
            have n12_ := Aside0.mk (below_step (by repeat (first | (with_reducible first | exact HB.out | apply below_alloc | apply pw_below_drewN | apply below_drew1 | refine below_set ?_ GE678.out | refine below_set ?_ GE679.out | refine below_set ?_ GE680.out | refine below_set ?_ GE684.out) | exact HB.out)) hb)
            clear HO662
            clear HO665
            clear HO668
            clear HO671
            clear HO674
            clear HO677
            clear HO683
            clear BK678
            clear BK679
            clear BK680
            clear BK684
            clear HB
            have HO662 := n0_
            have HO665 := n1_
            have HO668 := n2_
            have HO671 := n3_
            have HO674 := n4_
            have HO677 := n5_
            have HO683 := n6_
            have HO688 := n7_
            have BK678 := n8_
            have BK679 := n9_
            have BK680 := n10_
            have BK684 := n11_
            have HB := n12_
            clear n0_ n1_ n2_ n3_ n4_ n5_ n6_ n7_ n8_ n9_ n10_ n11_ n12_
            (try clear hb)
            (try clear hb2)
            (try clear hk)
            (try clear hi)
            (try clear ho0)
            obtain ⟨Ao68, co68, eo68⟩ := Kd.R_slice HO688.out
            (first | subst eo68 | (injection eo68 with f1_ f2_ f3_; have f4_ := f1_.symm; have f5_ := f3_.symm; clear f1_ f2_ f3_; subst f4_; subst f5_))
            refine hK.out _ _ ⟨(blk_cell BK684.out 0).trans rfl, (blk_cell BK679.out 0).trans rfl, (blk_cell BK678.out 0).trans rfl, (blk_cell BK680.out 0).trans rfl⟩ (fun hHeld => ?_)
            clear hK K
            refine norm_ (a' := ?_) ?_ ?_
            rotate_left
            · show Act.put _ (some 32) _ = _
              simp only [Act.put, List.setIfInBounds_toArray, List.set_cons_zero, List.set_cons_succ, i64_w, i32_w]
              rfl
            refine one_ (i := 6) (N := some 33) #[true, true, true, true, true, true, true, false, false, false, false, false, false, false, false, false, false, false, false, false, false, false, false, false, false, false, false, false, false, false, false, false, false, false, false, false, false, false, false, false, false, false, false, false, false, false, false, false, false, false, false, false, false, false, false, false, false, false, false, false] rfl rfl (one_of HT_.out (by kernel_rfl)) (by decide) (fun K hK => ?_)
            refine goes_ Try.func37 (by kernel_rfl) rfl #[.agg #[.slice Ao59 t681.length co59], .agg #[.slice Ao68 t686.length co68]] (by rfl) rfl rfl (by (try simp only [List.map_toArray, List.map_cons, List.map_nil]); first | done | rfl | (simp only [List.length_drop, List.length_take]; rfl)) ?_
            with_reducible refine (nat_Cmp.calls k _ _ t681 _ _ t686 t689 _ ?side1 ?side2 ?side3 ?side4 A14.out).mono ?_
            (case side1 => repeat (first | exact (Kd.R_reads' HO683.out).2.2 | (with_reducible refine Kd.C_alloc ?_ _) | (with_reducible refine Kd.C_drewN ?_ _) | (with_reducible refine Kd.C_drew ?_)))
            (case side2 => exact (Kd.R_reads' HO683.out).2.1)
            (case side3 => repeat (first | exact (Kd.R_reads' HO688.out).2.2 | (with_reducible refine Kd.C_alloc ?_ _) | (with_reducible refine Kd.C_drewN ?_ _) | (with_reducible refine Kd.C_drew ?_)))
            (case side4 => exact (Kd.R_reads' HO688.out).2.1)
            rintro e w69 ⟨rfl, hb⟩
            refine ⟨_, rfl, ?_⟩
            have n0_ := Aside0.mk (Kd.V_below (by (with_reducible repeat (first | apply Kd.V_alloc | apply Kd.V_drewN | apply Kd.V_drew)); exact HO662.out) hb)
            have n1_ := Aside0.mk (Kd.R_below (by (with_reducible repeat (first | apply Kd.R_alloc | apply Kd.R_drewN | apply Kd.R_drew)); exact HO665.out) hb)
            have n2_ := Aside0.mk (Kd.V_below (by (with_reducible repeat (first | apply Kd.V_alloc | apply Kd.V_drewN | apply Kd.V_drew)); exact HO668.out) hb)
            have n3_ := Aside0.mk (Kd.R_below (by (with_reducible repeat (first | apply Kd.R_alloc | apply Kd.R_drewN | apply Kd.R_drew)); exact HO671.out) hb)
            have n4_ := Aside0.mk (Kd.V_below (by (with_reducible repeat (first | apply Kd.V_alloc | apply Kd.V_drewN | apply Kd.V_drew)); exact HO674.out) hb)
            have n5_ := Aside0.mk (Kd.R_below (by (with_reducible repeat (first | apply Kd.R_alloc | apply Kd.R_drewN | apply Kd.R_drew)); exact HO677.out) hb)
            have n6_ := Aside0.mk (Kd.R_below (by (with_reducible repeat (first | apply Kd.R_alloc | apply Kd.R_drewN | apply Kd.R_drew)); exact HO683.out) hb)
            have n7_ := Aside0.mk (Kd.R_below (by (with_reducible repeat (first | apply Kd.R_alloc | apply Kd.R_drewN | apply Kd.R_drew)); exact HO688.out) hb)
            have n8_ := Aside0.mk (blk_below (g := gb678) (o := .cells #[.slice Ao48 t663.length co48] 25 (0, 0)) (by (with_reducible repeat (first | refine blk_drewN ?_ _ | refine blk_drew ?_ | refine blk_alloc ?_ _)); exact BK678.out) hb)
            have n9_ := Aside0.mk (blk_below (g := gb679) (o := .cells #[.slice Ao52 t669.length co52] 25 (0, 0)) (by (with_reducible repeat (first | refine blk_drewN ?_ _ | refine blk_drew ?_ | refine blk_alloc ?_ _)); exact BK679.out) hb)
            have n10_ := Aside0.mk (blk_below (g := gb680) (o := .cells #[.slice Ao55 t675.length co55] 25 (0, 0)) (by (with_reducible repeat (first | refine blk_drewN ?_ _ | refine blk_drew ?_ | refine blk_alloc ?_ _)); exact BK680.out) hb)
            have n11_ := Aside0.mk (blk_below (g := gb684) (o := .cells #[.slice Ao59 t681.length co59] 25 (0, 0)) (by (with_reducible repeat (first | refine blk_drewN ?_ _ | refine blk_drew ?_ | refine blk_alloc ?_ _)); exact BK684.out) hb)
            have n12_ := Aside0.mk (below_step (by repeat (first | (with_reducible first | exact HB.out | apply below_alloc | apply pw_below_drewN | apply below_drew1 | refine below_set ?_ GE678.out | refine below_set ?_ GE679.out | refine below_set ?_ GE680.out | refine below_set ?_ GE684.out) | exact HB.out)) hb)
            clear HO662
            clear HO665
            clear HO668
            clear HO671
            clear HO674
            clear HO677
            clear HO683
            clear HO688
            clear BK678
            clear BK679
            clear BK680
            clear BK684
            clear HB
            have HO662 := n0_
            have HO665 := n1_
            have HO668 := n2_
            have HO671 := n3_
            have HO674 := n4_
            have HO677 := n5_
            have HO683 := n6_
            have HO688 := n7_
            have BK678 := n8_
            have BK679 := n9_
            have BK680 := n10_
            have BK684 := n11_
            have HB := n12_
            clear n0_ n1_ n2_ n3_ n4_ n5_ n6_ n7_ n8_ n9_ n10_ n11_ n12_
            (try clear hb)
            (try clear hb2)
            (try clear hk)
            (try clear hi)
            refine hK.out _ _ ⟨(blk_cell BK684.out 0).trans rfl, (blk_cell BK679.out 0).trans rfl, (blk_cell BK678.out 0).trans rfl, (blk_cell BK680.out 0).trans rfl⟩ (fun hHeld => ?_)
            clear hK K
            refine norm_ (a' := ?_) ?_ ?_
            rotate_left
            · show Act.put _ (some 33) _ = _
              simp only [Act.put, List.setIfInBounds_toArray, List.set_cons_zero, List.set_cons_succ, i64_w, i32_w]
              rfl
            refine pure_ (i := 7) (N := some 34) (v := ?_) (a' := ?_) #[true, true, true, true, true, true, true, true, false, false, false, false, false, false, false, false, false, false, false, false, false, false, false, false, false, false, false, false, false, false, false, false, false, false, false, false, false, false, false, false, false, false, false, false, false, false, false, false, false, false, false, false, false, false, false, false, false, false, false, false] rfl rfl (any_of HT_.out (by kernel_rfl)) (fun _ _ _ h => h) (Or.inl ⟨by rfl, ?_⟩) ?_ ?_
            rotate_left
            · intro w'
              go_simp
              with_reducible rfl
            rotate_left
            · simp only [Act.put, List.setIfInBounds_toArray, List.set_cons_zero, List.set_cons_succ, i64_w, i32_w]
              rfl
            refine pure_ (i := 8) (N := some 35) (v := ?_) (a' := ?_) #[true, true, true, true, true, true, true, true, true, false, false, false, false, false, false, false, false, false, false, false, false, false, false, false, false, false, false, false, false, false, false, false, false, false, false, false, false, false, false, false, false, false, false, false, false, false, false, false, false, false, false, false, false, false, false, false, false, false, false, false] rfl rfl (any_of HT_.out (by kernel_rfl)) (fun _ _ _ h => h) (Or.inl ⟨by rfl, ?_⟩) ?_ ?_
            rotate_left
            · intro w'
              go_simp
              with_reducible rfl
            rotate_left
            · simp only [Act.put, List.setIfInBounds_toArray, List.set_cons_zero, List.set_cons_succ, i64_w, i32_w]
              rfl
            refine pure_ (i := 9) (N := some 36) (v := ?_) (a' := ?_) #[true, true, true, true, true, true, true, true, true, true, false, false, false, false, false, false, false, false, false, false, false, false, false, false, false, false, false, false, false, false, false, false, false, false, false, false, false, false, false, false, false, false, false, false, false, false, false, false, false, false, false, false, false, false, false, false, false, false, false, false] rfl rfl (any_of HT_.out (by kernel_rfl)) (fun _ _ _ h => h) (Or.inl ⟨by rfl, ?_⟩) ?_ ?_
            rotate_left
            · intro w'
              go_simp
              with_reducible rfl
            rotate_left
            · simp only [Act.put, List.setIfInBounds_toArray, List.set_cons_zero, List.set_cons_succ, i64_w, i32_w]
              rfl
            refine take_ (i := 10) (N := some 37) (v := ?_) (a' := ?_) #[true, true, true, true, true, true, true, true, true, true, true, false, false, false, false, false, false, false, false, false, false, false, false, false, false, false, false, false, false, false, false, false, false, false, false, false, false, false, false, false, false, false, false, false, false, false, false, false, false, false, false, false, false, false, false, false, false, false, false, false] rfl rfl (take_ofW HT_.out HW_.out (by kernel_rfl)) (fun _ _ _ h => h) (Or.inl ⟨by rfl, ?_⟩) hHeld ?_ ?_
            rotate_left
            · rintro w' ⟨s0, s1, s2, s3⟩
              go_simp
              with_reducible rfl
            rotate_left
            · simp only [Act.put, List.setIfInBounds_toArray, List.set_cons_zero, List.set_cons_succ, i64_w, i32_w]
              rfl
            refine take_ (i := 11) (N := some 38) (v := ?_) (a' := ?_) #[true, true, true, true, true, true, true, true, true, true, true, true, false, false, false, false, false, false, false, false, false, false, false, false, false, false, false, false, false, false, false, false, false, false, false, false, false, false, false, false, false, false, false, false, false, false, false, false, false, false, false, false, false, false, false, false, false, false, false, false] rfl rfl (take_ofW HT_.out HW_.out (by kernel_rfl)) (fun _ _ _ h => h) (Or.inl ⟨by rfl, ?_⟩) hHeld ?_ ?_
            rotate_left
            · rintro w' ⟨s0, s1, s2, s3⟩
              go_simp
              with_reducible rfl
            rotate_left
            · simp only [Act.put, List.setIfInBounds_toArray, List.set_cons_zero, List.set_cons_succ, i64_w, i32_w]
              rfl
            refine take_ (i := 13) (N := some 40) (v := ?_) (a' := ?_) #[true, true, true, true, true, true, true, true, true, true, true, true, false, true, false, false, false, false, false, false, false, false, false, false, false, false, false, false, false, false, false, false, false, false, false, false, false, false, false, false, false, false, false, false, false, false, false, false, false, false, false, false, false, false, false, false, false, false, false, false] rfl rfl (take_ofW HT_.out HW_.out (by kernel_rfl)) (fun _ _ _ h => h) (Or.inl ⟨by rfl, ?_⟩) hHeld ?_ ?_
            rotate_left
            · rintro w' ⟨s0, s1, s2, s3⟩
              go_simp
              with_reducible rfl
            rotate_left
            · simp only [Act.put, List.setIfInBounds_toArray, List.set_cons_zero, List.set_cons_succ, i64_w, i32_w]
              rfl
            refine take_ (i := 14) (N := some 41) (v := ?_) (a' := ?_) #[true, true, true, true, true, true, true, true, true, true, true, true, false, true, true, false, false, false, false, false, false, false, false, false, false, false, false, false, false, false, false, false, false, false, false, false, false, false, false, false, false, false, false, false, false, false, false, false, false, false, false, false, false, false, false, false, false, false, false, false] rfl rfl (take_ofW HT_.out HW_.out (by kernel_rfl)) (fun _ _ _ h => h) (Or.inl ⟨by rfl, ?_⟩) hHeld ?_ ?_
            rotate_left
            · rintro w' ⟨s0, s1, s2, s3⟩
              go_simp
              with_reducible rfl
            rotate_left
            · simp only [Act.put, List.setIfInBounds_toArray, List.set_cons_zero, List.set_cons_succ, i64_w, i32_w]
              rfl
            refine take_ (i := 15) (N := some 42) (v := ?_) (a' := ?_) #[true, true, true, true, true, true, true, true, true, true, true, true, false, true, true, true, false, false, false, false, false, false, false, false, false, false, false, false, false, false, false, false, false, false, false, false, false, false, false, false, false, false, false, false, false, false, false, false, false, false, false, false, false, false, false, false, false, false, false, false] rfl rfl (take_ofW HT_.out HW_.out (by kernel_rfl)) (fun _ _ _ h => h) (Or.inl ⟨by rfl, ?_⟩) hHeld ?_ ?_
            rotate_left
            · rintro w' ⟨s0, s1, s2, s3⟩
              go_simp
              with_reducible rfl
            rotate_left
            · simp only [Act.put, List.setIfInBounds_toArray, List.set_cons_zero, List.set_cons_succ, i64_w, i32_w]
              rfl
            refine one_ (i := 12) (N := some 39) #[true, true, true, true, true, true, true, true, true, true, true, true, true, true, true, true, false, false, false, false, false, false, false, false, false, false, false, false, false, false, false, false, false, false, false, false, false, false, false, false, false, false, false, false, false, false, false, false, false, false, false, false, false, false, false, false, false, false, false, false] rfl rfl (one_of HT_.out (by kernel_rfl)) (by decide) (fun K hK => ?_)
            refine goes_ Try.func24 (by kernel_rfl) rfl #[.agg #[.slice Ao59 t681.length co59], .agg #[.slice Ao55 t675.length co55]] (by rfl) rfl rfl (by (try simp only [List.map_toArray, List.map_cons, List.map_nil]); first | done | rfl | (simp only [List.length_drop, List.length_take]; rfl)) ?_
            with_reducible refine (times_Mul.calls k _ _ t681 _ _ t675 t690 _ ?side1 ?side2 ?side3 ?side4 A16.out).mono ?_
            (case side1 => repeat (first | exact (Kd.R_reads' HO683.out).2.2 | (with_reducible refine Kd.C_alloc ?_ _) | (with_reducible refine Kd.C_drewN ?_ _) | (with_reducible refine Kd.C_drew ?_)))
            (case side2 => exact (Kd.R_reads' HO683.out).2.1)
            (case side3 => repeat (first | exact (Kd.R_reads' HO677.out).2.2 | (with_reducible refine Kd.C_alloc ?_ _) | (with_reducible refine Kd.C_drewN ?_ _) | (with_reducible refine Kd.C_drew ?_)))
            (case side4 => exact (Kd.R_reads' HO677.out).2.1)
            rintro e w70 ⟨v691, rfl, ho0, hb⟩
            refine ⟨_, rfl, ?_⟩
            have n0_ := Aside0.mk (Kd.V_elder' (by (with_reducible repeat (first | apply Kd.V_alloc | apply Kd.V_drewN | apply Kd.V_drew)); exact HO662.out) (Kd.R_base ho0) hb)
            have n1_ := Aside0.mk (Kd.R_elder' (by (with_reducible repeat (first | apply Kd.R_alloc | apply Kd.R_drewN | apply Kd.R_drew)); exact HO665.out) (Kd.R_base ho0) hb)
            have n2_ := Aside0.mk (Kd.V_elder' (by (with_reducible repeat (first | apply Kd.V_alloc | apply Kd.V_drewN | apply Kd.V_drew)); exact HO668.out) (Kd.R_base ho0) hb)
            have n3_ := Aside0.mk (Kd.R_elder' (by (with_reducible repeat (first | apply Kd.R_alloc | apply Kd.R_drewN | apply Kd.R_drew)); exact HO671.out) (Kd.R_base ho0) hb)
            have n4_ := Aside0.mk (Kd.V_elder' (by (with_reducible repeat (first | apply Kd.V_alloc | apply Kd.V_drewN | apply Kd.V_drew)); exact HO674.out) (Kd.R_base ho0) hb)
            have n5_ := Aside0.mk (Kd.R_elder' (by (with_reducible repeat (first | apply Kd.R_alloc | apply Kd.R_drewN | apply Kd.R_drew)); exact HO677.out) (Kd.R_base ho0) hb)
            have n6_ := Aside0.mk (Kd.R_elder' (by (with_reducible repeat (first | apply Kd.R_alloc | apply Kd.R_drewN | apply Kd.R_drew)); exact HO683.out) (Kd.R_base ho0) hb)
            have n7_ := Aside0.mk (Kd.R_elder' (by (with_reducible repeat (first | apply Kd.R_alloc | apply Kd.R_drewN | apply Kd.R_drew)); exact HO688.out) (Kd.R_base ho0) hb)
            have n8_ := Aside0.mk (Kd.R_lower (Kd.R_new' (Kd.R_new' (Kd.R_new' (Kd.R_new' (Kd.R_new' ho0 (Kd.R_lt (by (with_reducible repeat (first | apply Kd.R_alloc | apply Kd.R_drewN | apply Kd.R_drew)); exact HO665.out))) (Kd.R_lt (by (with_reducible repeat (first | apply Kd.R_alloc | apply Kd.R_drewN | apply Kd.R_drew)); exact HO671.out))) (Kd.R_lt (by (with_reducible repeat (first | apply Kd.R_alloc | apply Kd.R_drewN | apply Kd.R_drew)); exact HO677.out))) (Kd.R_lt (by (with_reducible repeat (first | apply Kd.R_alloc | apply Kd.R_drewN | apply Kd.R_drew)); exact HO683.out))) (Kd.R_lt (by (with_reducible repeat (first | apply Kd.R_alloc | apply Kd.R_drewN | apply Kd.R_drew)); exact HO688.out))) (below_size (by repeat (first | (with_reducible first | exact HB.out | apply below_alloc | apply pw_below_drewN | apply below_drew1 | refine below_set ?_ GE678.out | refine below_set ?_ GE679.out | refine below_set ?_ GE680.out | refine below_set ?_ GE684.out) | exact HB.out))))
            have n9_ := Aside0.mk (blk_below (g := gb678) (o := .cells #[.slice Ao48 t663.length co48] 25 (0, 0)) (by (with_reducible repeat (first | refine blk_drewN ?_ _ | refine blk_drew ?_ | refine blk_alloc ?_ _)); exact BK678.out) hb)
            have n10_ := Aside0.mk (blk_below (g := gb679) (o := .cells #[.slice Ao52 t669.length co52] 25 (0, 0)) (by (with_reducible repeat (first | refine blk_drewN ?_ _ | refine blk_drew ?_ | refine blk_alloc ?_ _)); exact BK679.out) hb)
            have n11_ := Aside0.mk (blk_below (g := gb680) (o := .cells #[.slice Ao55 t675.length co55] 25 (0, 0)) (by (with_reducible repeat (first | refine blk_drewN ?_ _ | refine blk_drew ?_ | refine blk_alloc ?_ _)); exact BK680.out) hb)
            have n12_ := Aside0.mk (blk_below (g := gb684) (o := .cells #[.slice Ao59 t681.length co59] 25 (0, 0)) (by (with_reducible repeat (first | refine blk_drewN ?_ _ | refine blk_drew ?_ | refine blk_alloc ?_ _)); exact BK684.out) hb)
            have n13_ := Aside0.mk (below_step (by repeat (first | (with_reducible first | exact HB.out | apply below_alloc | apply pw_below_drewN | apply below_drew1 | refine below_set ?_ GE678.out | refine below_set ?_ GE679.out | refine below_set ?_ GE680.out | refine below_set ?_ GE684.out) | exact HB.out)) hb)
            clear HO662
            clear HO665
            clear HO668
            clear HO671
            clear HO674
            clear HO677
            clear HO683
            clear HO688
            clear BK678
            clear BK679
            clear BK680
            clear BK684
            clear HB
            have HO662 := n0_
            have HO665 := n1_
            have HO668 := n2_
            have HO671 := n3_
            have HO674 := n4_
            have HO677 := n5_
            have HO683 := n6_
            have HO688 := n7_
            have HO692 := n8_
            have BK678 := n9_
            have BK679 := n10_
            have BK680 := n11_
            have BK684 := n12_
            have HB := n13_
            clear n0_ n1_ n2_ n3_ n4_ n5_ n6_ n7_ n8_ n9_ n10_ n11_ n12_ n13_
            (try clear hb)
            (try clear hb2)
            (try clear hk)
            (try clear hi)
            (try clear ho0)
            refine hK.out _ _ ⟨(blk_cell BK684.out 0).trans rfl, (blk_cell BK679.out 0).trans rfl, (blk_cell BK678.out 0).trans rfl, (blk_cell BK680.out 0).trans rfl⟩ (fun hHeld => ?_)
            clear hK K
            refine norm_ (a' := ?_) ?_ ?_
            rotate_left
            · show Act.put _ (some 39) _ = _
              simp only [Act.put, List.setIfInBounds_toArray, List.set_cons_zero, List.set_cons_succ, i64_w, i32_w]
              rfl
            refine one_ (i := 16) (N := some 43) #[true, true, true, true, true, true, true, true, true, true, true, true, true, true, true, true, true, false, false, false, false, false, false, false, false, false, false, false, false, false, false, false, false, false, false, false, false, false, false, false, false, false, false, false, false, false, false, false, false, false, false, false, false, false, false, false, false, false, false, false] rfl rfl (one_of HT_.out (by kernel_rfl)) (by decide) (fun K hK => ?_)
            refine goes_ Try.func24 (by kernel_rfl) rfl #[.agg #[.slice Ao52 t669.length co52], .agg #[.slice Ao55 t675.length co55]] (by rfl) rfl rfl (by (try simp only [List.map_toArray, List.map_cons, List.map_nil]); first | done | rfl | (simp only [List.length_drop, List.length_take]; rfl)) ?_
            with_reducible refine (times_Mul.calls k _ _ t669 _ _ t675 t693 _ ?side1 ?side2 ?side3 ?side4 A17.out).mono ?_
            (case side1 => repeat (first | exact (Kd.R_reads' HO671.out).2.2 | (with_reducible refine Kd.C_alloc ?_ _) | (with_reducible refine Kd.C_drewN ?_ _) | (with_reducible refine Kd.C_drew ?_)))
            (case side2 => exact (Kd.R_reads' HO671.out).2.1)
            (case side3 => repeat (first | exact (Kd.R_reads' HO677.out).2.2 | (with_reducible refine Kd.C_alloc ?_ _) | (with_reducible refine Kd.C_drewN ?_ _) | (with_reducible refine Kd.C_drew ?_)))
            (case side4 => exact (Kd.R_reads' HO677.out).2.1)
            rintro e w71 ⟨v694, rfl, ho0, hb⟩
            refine ⟨_, rfl, ?_⟩
            have n0_ := Aside0.mk (Kd.V_elder' (by (with_reducible repeat (first | apply Kd.V_alloc | apply Kd.V_drewN | apply Kd.V_drew)); exact HO662.out) (Kd.R_base ho0) hb)
            have n1_ := Aside0.mk (Kd.R_elder' (by (with_reducible repeat (first | apply Kd.R_alloc | apply Kd.R_drewN | apply Kd.R_drew)); exact HO665.out) (Kd.R_base ho0) hb)
            have n2_ := Aside0.mk (Kd.V_elder' (by (with_reducible repeat (first | apply Kd.V_alloc | apply Kd.V_drewN | apply Kd.V_drew)); exact HO668.out) (Kd.R_base ho0) hb)
            have n3_ := Aside0.mk (Kd.R_elder' (by (with_reducible repeat (first | apply Kd.R_alloc | apply Kd.R_drewN | apply Kd.R_drew)); exact HO671.out) (Kd.R_base ho0) hb)
            have n4_ := Aside0.mk (Kd.V_elder' (by (with_reducible repeat (first | apply Kd.V_alloc | apply Kd.V_drewN | apply Kd.V_drew)); exact HO674.out) (Kd.R_base ho0) hb)
            have n5_ := Aside0.mk (Kd.R_elder' (by (with_reducible repeat (first | apply Kd.R_alloc | apply Kd.R_drewN | apply Kd.R_drew)); exact HO677.out) (Kd.R_base ho0) hb)
            have n6_ := Aside0.mk (Kd.R_elder' (by (with_reducible repeat (first | apply Kd.R_alloc | apply Kd.R_drewN | apply Kd.R_drew)); exact HO683.out) (Kd.R_base ho0) hb)
            have n7_ := Aside0.mk (Kd.R_elder' (by (with_reducible repeat (first | apply Kd.R_alloc | apply Kd.R_drewN | apply Kd.R_drew)); exact HO688.out) (Kd.R_base ho0) hb)
            have n8_ := Aside0.mk (Kd.R_elder' (by (with_reducible repeat (first | apply Kd.R_alloc | apply Kd.R_drewN | apply Kd.R_drew)); exact HO692.out) (Kd.R_base ho0) hb)
            have n9_ := Aside0.mk (Kd.R_lower (Kd.R_new' (Kd.R_new' (Kd.R_new' (Kd.R_new' (Kd.R_new' (Kd.R_new' ho0 (Kd.R_lt (by (with_reducible repeat (first | apply Kd.R_alloc | apply Kd.R_drewN | apply Kd.R_drew)); exact HO665.out))) (Kd.R_lt (by (with_reducible repeat (first | apply Kd.R_alloc | apply Kd.R_drewN | apply Kd.R_drew)); exact HO671.out))) (Kd.R_lt (by (with_reducible repeat (first | apply Kd.R_alloc | apply Kd.R_drewN | apply Kd.R_drew)); exact HO677.out))) (Kd.R_lt (by (with_reducible repeat (first | apply Kd.R_alloc | apply Kd.R_drewN | apply Kd.R_drew)); exact HO683.out))) (Kd.R_lt (by (with_reducible repeat (first | apply Kd.R_alloc | apply Kd.R_drewN | apply Kd.R_drew)); exact HO688.out))) (Kd.R_lt (by (with_reducible repeat (first | apply Kd.R_alloc | apply Kd.R_drewN | apply Kd.R_drew)); exact HO692.out))) (below_size (by repeat (first | (with_reducible first | exact HB.out | apply below_alloc | apply pw_below_drewN | apply below_drew1 | refine below_set ?_ GE678.out | refine below_set ?_ GE679.out | refine below_set ?_ GE680.out | refine below_set ?_ GE684.out) | exact HB.out))))
            have n10_ := Aside0.mk (blk_below (g := gb678) (o := .cells #[.slice Ao48 t663.length co48] 25 (0, 0)) (by (with_reducible repeat (first | refine blk_drewN ?_ _ | refine blk_drew ?_ | refine blk_alloc ?_ _)); exact BK678.out) hb)
            have n11_ := Aside0.mk (blk_below (g := gb679) (o := .cells #[.slice Ao52 t669.length co52] 25 (0, 0)) (by (with_reducible repeat (first | refine blk_drewN ?_ _ | refine blk_drew ?_ | refine blk_alloc ?_ _)); exact BK679.out) hb)
            have n12_ := Aside0.mk (blk_below (g := gb680) (o := .cells #[.slice Ao55 t675.length co55] 25 (0, 0)) (by (with_reducible repeat (first | refine blk_drewN ?_ _ | refine blk_drew ?_ | refine blk_alloc ?_ _)); exact BK680.out) hb)
            have n13_ := Aside0.mk (blk_below (g := gb684) (o := .cells #[.slice Ao59 t681.length co59] 25 (0, 0)) (by (with_reducible repeat (first | refine blk_drewN ?_ _ | refine blk_drew ?_ | refine blk_alloc ?_ _)); exact BK684.out) hb)
            have n14_ := Aside0.mk (below_step (by repeat (first | (with_reducible first | exact HB.out | apply below_alloc | apply pw_below_drewN | apply below_drew1 | refine below_set ?_ GE678.out | refine below_set ?_ GE679.out | refine below_set ?_ GE680.out | refine below_set ?_ GE684.out) | exact HB.out)) hb)
            clear HO662
            clear HO665
            clear HO668
            clear HO671
            clear HO674
            clear HO677
            clear HO683
            clear HO688
            clear HO692
            clear BK678
            clear BK679
            clear BK680
            clear BK684
            clear HB
            have HO662 := n0_
            have HO665 := n1_
            have HO668 := n2_
            have HO671 := n3_
            have HO674 := n4_
            have HO677 := n5_
            have HO683 := n6_
            have HO688 := n7_
            have HO692 := n8_
            have HO695 := n9_
            have BK678 := n10_
            have BK679 := n11_
            have BK680 := n12_
            have BK684 := n13_
            have HB := n14_
            clear n0_ n1_ n2_ n3_ n4_ n5_ n6_ n7_ n8_ n9_ n10_ n11_ n12_ n13_ n14_
            (try clear hb)
            (try clear hb2)
            (try clear hk)
            (try clear hi)
            (try clear ho0)
            obtain ⟨Ao72, co72, eo72⟩ := Kd.R_slice HO695.out
            (first | subst eo72 | (injection eo72 with f1_ f2_ f3_; have f4_ := f1_.symm; have f5_ := f3_.symm; clear f1_ f2_ f3_; subst f4_; subst f5_))
            refine hK.out _ _ ⟨(blk_cell BK684.out 0).trans rfl, (blk_cell BK679.out 0).trans rfl, (blk_cell BK678.out 0).trans rfl, (blk_cell BK680.out 0).trans rfl⟩ (fun hHeld => ?_)
            clear hK K
            refine norm_ (a' := ?_) ?_ ?_
            rotate_left
            · show Act.put _ (some 43) _ = _
              simp only [Act.put, List.setIfInBounds_toArray, List.set_cons_zero, List.set_cons_succ, i64_w, i32_w]
              rfl
            refine one_ (i := 17) (N := some 44) #[true, true, true, true, true, true, true, true, true, true, true, true, true, true, true, true, true, true, false, false, false, false, false, false, false, false, false, false, false, false, false, false, false, false, false, false, false, false, false, false, false, false, false, false, false, false, false, false, false, false, false, false, false, false, false, false, false, false, false, false] rfl rfl (one_of HT_.out (by kernel_rfl)) (by decide) (fun K hK => ?_)
            refine goes_ Try.func24 (by kernel_rfl) rfl #[.agg #[.slice Ao48 t663.length co48], .agg #[.slice Ao72 t693.length co72]] (by rfl) rfl rfl (by (try simp only [List.map_toArray, List.map_cons, List.map_nil]); first | done | rfl | (simp only [List.length_drop, List.length_take]; rfl)) ?_
            with_reducible refine (times_Mul.calls k _ _ t663 _ _ t693 t696 _ ?side1 ?side2 ?side3 ?side4 A18.out).mono ?_
            (case side1 => repeat (first | exact (Kd.R_reads' HO665.out).2.2 | (with_reducible refine Kd.C_alloc ?_ _) | (with_reducible refine Kd.C_drewN ?_ _) | (with_reducible refine Kd.C_drew ?_)))
            (case side2 => exact (Kd.R_reads' HO665.out).2.1)
            (case side3 => repeat (first | exact (Kd.R_reads' HO695.out).2.2 | (with_reducible refine Kd.C_alloc ?_ _) | (with_reducible refine Kd.C_drewN ?_ _) | (with_reducible refine Kd.C_drew ?_)))
            (case side4 => exact (Kd.R_reads' HO695.out).2.1)
            rintro e w73 ⟨v697, rfl, ho0, hb⟩
            refine ⟨_, rfl, ?_⟩
            have n0_ := Aside0.mk (Kd.V_elder' (by (with_reducible repeat (first | apply Kd.V_alloc | apply Kd.V_drewN | apply Kd.V_drew)); exact HO662.out) (Kd.R_base ho0) hb)
            have n1_ := Aside0.mk (Kd.R_elder' (by (with_reducible repeat (first | apply Kd.R_alloc | apply Kd.R_drewN | apply Kd.R_drew)); exact HO665.out) (Kd.R_base ho0) hb)
            have n2_ := Aside0.mk (Kd.V_elder' (by (with_reducible repeat (first | apply Kd.V_alloc | apply Kd.V_drewN | apply Kd.V_drew)); exact HO668.out) (Kd.R_base ho0) hb)
            have n3_ := Aside0.mk (Kd.R_elder' (by (with_reducible repeat (first | apply Kd.R_alloc | apply Kd.R_drewN | apply Kd.R_drew)); exact HO671.out) (Kd.R_base ho0) hb)
            have n4_ := Aside0.mk (Kd.V_elder' (by (with_reducible repeat (first | apply Kd.V_alloc | apply Kd.V_drewN | apply Kd.V_drew)); exact HO674.out) (Kd.R_base ho0) hb)
            have n5_ := Aside0.mk (Kd.R_elder' (by (with_reducible repeat (first | apply Kd.R_alloc | apply Kd.R_drewN | apply Kd.R_drew)); exact HO677.out) (Kd.R_base ho0) hb)
            have n6_ := Aside0.mk (Kd.R_elder' (by (with_reducible repeat (first | apply Kd.R_alloc | apply Kd.R_drewN | apply Kd.R_drew)); exact HO683.out) (Kd.R_base ho0) hb)
            have n7_ := Aside0.mk (Kd.R_elder' (by (with_reducible repeat (first | apply Kd.R_alloc | apply Kd.R_drewN | apply Kd.R_drew)); exact HO688.out) (Kd.R_base ho0) hb)
            have n8_ := Aside0.mk (Kd.R_elder' (by (with_reducible repeat (first | apply Kd.R_alloc | apply Kd.R_drewN | apply Kd.R_drew)); exact HO692.out) (Kd.R_base ho0) hb)
            have n9_ := Aside0.mk (Kd.R_elder' (by (with_reducible repeat (first | apply Kd.R_alloc | apply Kd.R_drewN | apply Kd.R_drew)); exact HO695.out) (Kd.R_base ho0) hb)
            have n10_ := Aside0.mk (Kd.R_lower (Kd.R_new' (Kd.R_new' (Kd.R_new' (Kd.R_new' (Kd.R_new' (Kd.R_new' (Kd.R_new' ho0 (Kd.R_lt (by (with_reducible repeat (first | apply Kd.R_alloc | apply Kd.R_drewN | apply Kd.R_drew)); exact HO665.out))) (Kd.R_lt (by (with_reducible repeat (first | apply Kd.R_alloc | apply Kd.R_drewN | apply Kd.R_drew)); exact HO671.out))) (Kd.R_lt (by (with_reducible repeat (first | apply Kd.R_alloc | apply Kd.R_drewN | apply Kd.R_drew)); exact HO677.out))) (Kd.R_lt (by (with_reducible repeat (first | apply Kd.R_alloc | apply Kd.R_drewN | apply Kd.R_drew)); exact HO683.out))) (Kd.R_lt (by (with_reducible repeat (first | apply Kd.R_alloc | apply Kd.R_drewN | apply Kd.R_drew)); exact HO688.out))) (Kd.R_lt (by (with_reducible repeat (first | apply Kd.R_alloc | apply Kd.R_drewN | apply Kd.R_drew)); exact HO692.out))) (Kd.R_lt (by (with_reducible repeat (first | apply Kd.R_alloc | apply Kd.R_drewN | apply Kd.R_drew)); exact HO695.out))) (below_size (by repeat (first | (with_reducible first | exact HB.out | apply below_alloc | apply pw_below_drewN | apply below_drew1 | refine below_set ?_ GE678.out | refine below_set ?_ GE679.out | refine below_set ?_ GE680.out | refine below_set ?_ GE684.out) | exact HB.out))))
            have n11_ := Aside0.mk (blk_below (g := gb678) (o := .cells #[.slice Ao48 t663.length co48] 25 (0, 0)) (by (with_reducible repeat (first | refine blk_drewN ?_ _ | refine blk_drew ?_ | refine blk_alloc ?_ _)); exact BK678.out) hb)
            have n12_ := Aside0.mk (blk_below (g := gb679) (o := .cells #[.slice Ao52 t669.length co52] 25 (0, 0)) (by (with_reducible repeat (first | refine blk_drewN ?_ _ | refine blk_drew ?_ | refine blk_alloc ?_ _)); exact BK679.out) hb)
            have n13_ := Aside0.mk (blk_below (g := gb680) (o := .cells #[.slice Ao55 t675.length co55] 25 (0, 0)) (by (with_reducible repeat (first | refine blk_drewN ?_ _ | refine blk_drew ?_ | refine blk_alloc ?_ _)); exact BK680.out) hb)
            have n14_ := Aside0.mk (blk_below (g := gb684) (o := .cells #[.slice Ao59 t681.length co59] 25 (0, 0)) (by (with_reducible repeat (first | refine blk_drewN ?_ _ | refine blk_drew ?_ | refine blk_alloc ?_ _)); exact BK684.out) hb)
            have n15_ := Aside0.mk (below_step (by repeat (first | (with_reducible first | exact HB.out | apply below_alloc | apply pw_below_drewN | apply below_drew1 | refine below_set ?_ GE678.out | refine below_set ?_ GE679.out | refine below_set ?_ GE680.out | refine below_set ?_ GE684.out) | exact HB.out)) hb)
            clear HO662
            clear HO665
            clear HO668
            clear HO671
            clear HO674
            clear HO677
            clear HO683
            clear HO688
            clear HO692
            clear HO695
            clear BK678
            clear BK679
            clear BK680
            clear BK684
            clear HB
            have HO662 := n0_
            have HO665 := n1_
            have HO668 := n2_
            have HO671 := n3_
            have HO674 := n4_
            have HO677 := n5_
            have HO683 := n6_
            have HO688 := n7_
            have HO692 := n8_
            have HO695 := n9_
            have HO698 := n10_
            have BK678 := n11_
            have BK679 := n12_
            have BK680 := n13_
            have BK684 := n14_
            have HB := n15_
            clear n0_ n1_ n2_ n3_ n4_ n5_ n6_ n7_ n8_ n9_ n10_ n11_ n12_ n13_ n14_ n15_
            (try clear hb)
            (try clear hb2)
            (try clear hk)
            (try clear hi)
            (try clear ho0)
            obtain ⟨Ao74, co74, eo74⟩ := Kd.R_slice HO692.out
            (first | subst eo74 | (injection eo74 with f1_ f2_ f3_; have f4_ := f1_.symm; have f5_ := f3_.symm; clear f1_ f2_ f3_; subst f4_; subst f5_))
            obtain ⟨Ao75, co75, eo75⟩ := Kd.R_slice HO698.out
            (first | subst eo75 | (injection eo75 with f1_ f2_ f3_; have f4_ := f1_.symm; have f5_ := f3_.symm; clear f1_ f2_ f3_; subst f4_; subst f5_))
            refine hK.out _ _ ⟨(blk_cell BK684.out 0).trans rfl, (blk_cell BK679.out 0).trans rfl, (blk_cell BK678.out 0).trans rfl, (blk_cell BK680.out 0).trans rfl⟩ (fun hHeld => ?_)
            clear hK K
            refine norm_ (a' := ?_) ?_ ?_
            rotate_left
            · show Act.put _ (some 44) _ = _
              simp only [Act.put, List.setIfInBounds_toArray, List.set_cons_zero, List.set_cons_succ, i64_w, i32_w]
              rfl
            refine one_ (i := 18) (N := some 45) #[true, true, true, true, true, true, true, true, true, true, true, true, true, true, true, true, true, true, true, false, false, false, false, false, false, false, false, false, false, false, false, false, false, false, false, false, false, false, false, false, false, false, false, false, false, false, false, false, false, false, false, false, false, false, false, false, false, false, false, false] rfl rfl (one_of HT_.out (by kernel_rfl)) (by decide) (fun K hK => ?_)
            refine goes_ Try.func37 (by kernel_rfl) rfl #[.agg #[.slice Ao74 t690.length co74], .agg #[.slice Ao75 t696.length co75]] (by rfl) rfl rfl (by (try simp only [List.map_toArray, List.map_cons, List.map_nil]); first | done | rfl | (simp only [List.length_drop, List.length_take]; rfl)) ?_
            with_reducible refine (nat_Cmp.calls k _ _ t690 _ _ t696 t699 _ ?side1 ?side2 ?side3 ?side4 A19.out).mono ?_
            (case side1 => repeat (first | exact (Kd.R_reads' HO692.out).2.2 | (with_reducible refine Kd.C_alloc ?_ _) | (with_reducible refine Kd.C_drewN ?_ _) | (with_reducible refine Kd.C_drew ?_)))
            (case side2 => exact (Kd.R_reads' HO692.out).2.1)
            (case side3 => repeat (first | exact (Kd.R_reads' HO698.out).2.2 | (with_reducible refine Kd.C_alloc ?_ _) | (with_reducible refine Kd.C_drewN ?_ _) | (with_reducible refine Kd.C_drew ?_)))
            (case side4 => exact (Kd.R_reads' HO698.out).2.1)
            rintro e w76 ⟨rfl, hb⟩
            refine ⟨_, rfl, ?_⟩
            have n0_ := Aside0.mk (Kd.V_below (by (with_reducible repeat (first | apply Kd.V_alloc | apply Kd.V_drewN | apply Kd.V_drew)); exact HO662.out) hb)
            have n1_ := Aside0.mk (Kd.R_below (by (with_reducible repeat (first | apply Kd.R_alloc | apply Kd.R_drewN | apply Kd.R_drew)); exact HO665.out) hb)
            have n2_ := Aside0.mk (Kd.V_below (by (with_reducible repeat (first | apply Kd.V_alloc | apply Kd.V_drewN | apply Kd.V_drew)); exact HO668.out) hb)
            have n3_ := Aside0.mk (Kd.R_below (by (with_reducible repeat (first | apply Kd.R_alloc | apply Kd.R_drewN | apply Kd.R_drew)); exact HO671.out) hb)
            have n4_ := Aside0.mk (Kd.V_below (by (with_reducible repeat (first | apply Kd.V_alloc | apply Kd.V_drewN | apply Kd.V_drew)); exact HO674.out) hb)
            have n5_ := Aside0.mk (Kd.R_below (by (with_reducible repeat (first | apply Kd.R_alloc | apply Kd.R_drewN | apply Kd.R_drew)); exact HO677.out) hb)
            have n6_ := Aside0.mk (Kd.R_below (by (with_reducible repeat (first | apply Kd.R_alloc | apply Kd.R_drewN | apply Kd.R_drew)); exact HO683.out) hb)
            have n7_ := Aside0.mk (Kd.R_below (by (with_reducible repeat (first | apply Kd.R_alloc | apply Kd.R_drewN | apply Kd.R_drew)); exact HO688.out) hb)
            have n8_ := Aside0.mk (Kd.R_below (by (with_reducible repeat (first | apply Kd.R_alloc | apply Kd.R_drewN | apply Kd.R_drew)); exact HO692.out) hb)
            have n9_ := Aside0.mk (Kd.R_below (by (with_reducible repeat (first | apply Kd.R_alloc | apply Kd.R_drewN | apply Kd.R_drew)); exact HO695.out) hb)
            have n10_ := Aside0.mk (Kd.R_below (by (with_reducible repeat (first | apply Kd.R_alloc | apply Kd.R_drewN | apply Kd.R_drew)); exact HO698.out) hb)
            have n11_ := Aside0.mk (blk_below (g := gb678) (o := .cells #[.slice Ao48 t663.length co48] 25 (0, 0)) (by (with_reducible repeat (first | refine blk_drewN ?_ _ | refine blk_drew ?_ | refine blk_alloc ?_ _)); exact BK678.out) hb)
            have n12_ := Aside0.mk (blk_below (g := gb679) (o := .cells #[.slice Ao52 t669.length co52] 25 (0, 0)) (by (with_reducible repeat (first | refine blk_drewN ?_ _ | refine blk_drew ?_ | refine blk_alloc ?_ _)); exact BK679.out) hb)
            have n13_ := Aside0.mk (blk_below (g := gb680) (o := .cells #[.slice Ao55 t675.length co55] 25 (0, 0)) (by (with_reducible repeat (first | refine blk_drewN ?_ _ | refine blk_drew ?_ | refine blk_alloc ?_ _)); exact BK680.out) hb)
            have n14_ := Aside0.mk (blk_below (g := gb684) (o := .cells #[.slice Ao59 t681.length co59] 25 (0, 0)) (by (with_reducible repeat (first | refine blk_drewN ?_ _ | refine blk_drew ?_ | refine blk_alloc ?_ _)); exact BK684.out) hb)
            have n15_ := Aside0.mk (below_step (by repeat (first | (with_reducible first | exact HB.out | apply below_alloc | apply pw_below_drewN | apply below_drew1 | refine below_set ?_ GE678.out | refine below_set ?_ GE679.out | refine below_set ?_ GE680.out | refine below_set ?_ GE684.out) | exact HB.out)) hb)
            clear HO662
            clear HO665
            clear HO668
            clear HO671
            clear HO674
            clear HO677
            clear HO683
            clear HO688
            clear HO692
            clear HO695
            clear HO698
            clear BK678
            clear BK679
            clear BK680
            clear BK684
            clear HB
            have HO662 := n0_
            have HO665 := n1_
            have HO668 := n2_
            have HO671 := n3_
            have HO674 := n4_
            have HO677 := n5_
            have HO683 := n6_
            have HO688 := n7_
            have HO692 := n8_
            have HO695 := n9_
            have HO698 := n10_
            have BK678 := n11_
            have BK679 := n12_
            have BK680 := n13_
            have BK684 := n14_
            have HB := n15_
            clear n0_ n1_ n2_ n3_ n4_ n5_ n6_ n7_ n8_ n9_ n10_ n11_ n12_ n13_ n14_ n15_
            (try clear hb)
            (try clear hb2)
            (try clear hk)
            (try clear hi)
            refine hK.out _ _ ⟨(blk_cell BK684.out 0).trans rfl, (blk_cell BK679.out 0).trans rfl, (blk_cell BK678.out 0).trans rfl, (blk_cell BK680.out 0).trans rfl⟩ (fun hHeld => ?_)
            clear hK K
            refine norm_ (a' := ?_) ?_ ?_
            rotate_left
            · show Act.put _ (some 45) _ = _
              simp only [Act.put, List.setIfInBounds_toArray, List.set_cons_zero, List.set_cons_succ, i64_w, i32_w]
              rfl
            refine pure_ (i := 19) (N := some 46) (v := ?_) (a' := ?_) #[true, true, true, true, true, true, true, true, true, true, true, true, true, true, true, true, true, true, true, true, false, false, false, false, false, false, false, false, false, false, false, false, false, false, false, false, false, false, false, false, false, false, false, false, false, false, false, false, false, false, false, false, false, false, false, false, false, false, false, false] rfl rfl (any_of HT_.out (by kernel_rfl)) (fun _ _ _ h => h) (Or.inl ⟨by rfl, ?_⟩) ?_ ?_
            rotate_left
            · intro w'
              go_simp
              with_reducible rfl
            rotate_left
            · simp only [Act.put, List.setIfInBounds_toArray, List.set_cons_zero, List.set_cons_succ, i64_w, i32_w]
              rfl
            refine pure_ (i := 20) (N := some 47) (v := ?_) (a' := ?_) #[true, true, true, true, true, true, true, true, true, true, true, true, true, true, true, true, true, true, true, true, true, false, false, false, false, false, false, false, false, false, false, false, false, false, false, false, false, false, false, false, false, false, false, false, false, false, false, false, false, false, false, false, false, false, false, false, false, false, false, false] rfl rfl (any_of HT_.out (by kernel_rfl)) (fun _ _ _ h => h) (Or.inl ⟨by rfl, ?_⟩) ?_ ?_
            rotate_left
            · intro w'
              go_simp
              with_reducible rfl
            rotate_left
            · simp only [Act.put, List.setIfInBounds_toArray, List.set_cons_zero, List.set_cons_succ, i64_w, i32_w]
              rfl
            refine pure_ (i := 21) (N := some 48) (v := ?_) (a' := ?_) #[true, true, true, true, true, true, true, true, true, true, true, true, true, true, true, true, true, true, true, true, true, true, false, false, false, false, false, false, false, false, false, false, false, false, false, false, false, false, false, false, false, false, false, false, false, false, false, false, false, false, false, false, false, false, false, false, false, false, false, false] rfl rfl (any_of HT_.out (by kernel_rfl)) (fun _ _ _ h => h) (Or.inl ⟨by rfl, ?_⟩) ?_ ?_
            rotate_left
            · intro w'
              go_simp
              with_reducible rfl
            rotate_left
            · simp only [Act.put, List.setIfInBounds_toArray, List.set_cons_zero, List.set_cons_succ, i64_w, i32_w]
              rfl
            refine take_ (i := 22) (N := some 49) (v := ?_) (a' := ?_) #[true, true, true, true, true, true, true, true, true, true, true, true, true, true, true, true, true, true, true, true, true, true, true, false, false, false, false, false, false, false, false, false, false, false, false, false, false, false, false, false, false, false, false, false, false, false, false, false, false, false, false, false, false, false, false, false, false, false, false, false] rfl rfl (take_ofW HT_.out HW_.out (by kernel_rfl)) (fun _ _ _ h => h) (Or.inl ⟨by rfl, ?_⟩) hHeld ?_ ?_
            rotate_left
            · rintro w' ⟨s0, s1, s2, s3⟩
              go_simp
              with_reducible rfl
            rotate_left
            · simp only [Act.put, List.setIfInBounds_toArray, List.set_cons_zero, List.set_cons_succ, i64_w, i32_w]
              rfl
            refine take_ (i := 23) (N := some 50) (v := ?_) (a' := ?_) #[true, true, true, true, true, true, true, true, true, true, true, true, true, true, true, true, true, true, true, true, true, true, true, true, false, false, false, false, false, false, false, false, false, false, false, false, false, false, false, false, false, false, false, false, false, false, false, false, false, false, false, false, false, false, false, false, false, false, false, false] rfl rfl (take_ofW HT_.out HW_.out (by kernel_rfl)) (fun _ _ _ h => h) (Or.inl ⟨by rfl, ?_⟩) hHeld ?_ ?_
            rotate_left
            · rintro w' ⟨s0, s1, s2, s3⟩
              go_simp
              with_reducible rfl
            rotate_left
            · simp only [Act.put, List.setIfInBounds_toArray, List.set_cons_zero, List.set_cons_succ, i64_w, i32_w]
              rfl
            refine take_ (i := 24) (N := some 51) (v := ?_) (a' := ?_) #[true, true, true, true, true, true, true, true, true, true, true, true, true, true, true, true, true, true, true, true, true, true, true, true, true, false, false, false, false, false, false, false, false, false, false, false, false, false, false, false, false, false, false, false, false, false, false, false, false, false, false, false, false, false, false, false, false, false, false, false] rfl rfl (take_ofW HT_.out HW_.out (by kernel_rfl)) (fun _ _ _ h => h) (Or.inl ⟨by rfl, ?_⟩) hHeld ?_ ?_
            rotate_left
            · rintro w' ⟨s0, s1, s2, s3⟩
              go_simp
              with_reducible rfl
            rotate_left
            · simp only [Act.put, List.setIfInBounds_toArray, List.set_cons_zero, List.set_cons_succ, i64_w, i32_w]
              rfl
            refine take_ (i := 27) (N := some 54) (v := ?_) (a' := ?_) #[true, true, true, true, true, true, true, true, true, true, true, true, true, true, true, true, true, true, true, true, true, true, true, true, true, false, false, true, false, false, false, false, false, false, false, false, false, false, false, false, false, false, false, false, false, false, false, false, false, false, false, false, false, false, false, false, false, false, false, false] rfl rfl (take_ofW HT_.out HW_.out (by kernel_rfl)) (fun _ _ _ h => h) (Or.inl ⟨by rfl, ?_⟩) hHeld ?_ ?_
            rotate_left
            · rintro w' ⟨s0, s1, s2, s3⟩
              go_simp
              with_reducible rfl
            rotate_left
            · simp only [Act.put, List.setIfInBounds_toArray, List.set_cons_zero, List.set_cons_succ, i64_w, i32_w]
              rfl
            refine take_ (i := 28) (N := some 55) (v := ?_) (a' := ?_) #[true, true, true, true, true, true, true, true, true, true, true, true, true, true, true, true, true, true, true, true, true, true, true, true, true, false, false, true, true, false, false, false, false, false, false, false, false, false, false, false, false, false, false, false, false, false, false, false, false, false, false, false, false, false, false, false, false, false, false, false] rfl rfl (take_ofW HT_.out HW_.out (by kernel_rfl)) (fun _ _ _ h => h) (Or.inl ⟨by rfl, ?_⟩) hHeld ?_ ?_
            rotate_left
            · rintro w' ⟨s0, s1, s2, s3⟩
              go_simp
              with_reducible rfl
            rotate_left
            · simp only [Act.put, List.setIfInBounds_toArray, List.set_cons_zero, List.set_cons_succ, i64_w, i32_w]
              rfl
            refine take_ (i := 29) (N := some 56) (v := ?_) (a' := ?_) #[true, true, true, true, true, true, true, true, true, true, true, true, true, true, true, true, true, true, true, true, true, true, true, true, true, false, false, true, true, true, false, false, false, false, false, false, false, false, false, false, false, false, false, false, false, false, false, false, false, false, false, false, false, false, false, false, false, false, false, false] rfl rfl (take_ofW HT_.out HW_.out (by kernel_rfl)) (fun _ _ _ h => h) (Or.inl ⟨by rfl, ?_⟩) hHeld ?_ ?_
            rotate_left
            · rintro w' ⟨s0, s1, s2, s3⟩
              go_simp
              with_reducible rfl
            rotate_left
            · simp only [Act.put, List.setIfInBounds_toArray, List.set_cons_zero, List.set_cons_succ, i64_w, i32_w]
              rfl
            refine one_ (i := 25) (N := some 52) #[true, true, true, true, true, true, true, true, true, true, true, true, true, true, true, true, true, true, true, true, true, true, true, true, true, true, false, true, true, true, false, false, false, false, false, false, false, false, false, false, false, false, false, false, false, false, false, false, false, false, false, false, false, false, false, false, false, false, false, false] rfl rfl (one_of HT_.out (by kernel_rfl)) (by decide) (fun K hK => ?_)
            refine goes_ Try.func38 (by kernel_rfl) rfl #[.agg #[.slice Ao52 t669.length co52], .agg #[.slice Ao55 t675.length co55]] (by rfl) rfl rfl (by (try simp only [List.map_toArray, List.map_cons, List.map_nil]); first | done | rfl | (simp only [List.length_drop, List.length_take]; rfl)) ?_
            with_reducible refine (nat_Add.calls k _ _ t669 _ _ t675 t700 _ ?side1 ?side2 ?side3 ?side4 A21.out).mono ?_
            (case side1 => repeat (first | exact (Kd.R_reads' HO671.out).2.2 | (with_reducible refine Kd.C_alloc ?_ _) | (with_reducible refine Kd.C_drewN ?_ _) | (with_reducible refine Kd.C_drew ?_)))
            (case side2 => exact (Kd.R_reads' HO671.out).2.1)
            (case side3 => repeat (first | exact (Kd.R_reads' HO677.out).2.2 | (with_reducible refine Kd.C_alloc ?_ _) | (with_reducible refine Kd.C_drewN ?_ _) | (with_reducible refine Kd.C_drew ?_)))
            (case side4 => exact (Kd.R_reads' HO677.out).2.1)
            rintro e w77 ⟨v701, rfl, ho0, hb⟩
            refine ⟨_, rfl, ?_⟩
            have n0_ := Aside0.mk (Kd.V_elder' (by (with_reducible repeat (first | apply Kd.V_alloc | apply Kd.V_drewN | apply Kd.V_drew)); exact HO662.out) (Kd.R_base ho0) hb)
            have n1_ := Aside0.mk (Kd.R_elder' (by (with_reducible repeat (first | apply Kd.R_alloc | apply Kd.R_drewN | apply Kd.R_drew)); exact HO665.out) (Kd.R_base ho0) hb)
            have n2_ := Aside0.mk (Kd.V_elder' (by (with_reducible repeat (first | apply Kd.V_alloc | apply Kd.V_drewN | apply Kd.V_drew)); exact HO668.out) (Kd.R_base ho0) hb)
            have n3_ := Aside0.mk (Kd.R_elder' (by (with_reducible repeat (first | apply Kd.R_alloc | apply Kd.R_drewN | apply Kd.R_drew)); exact HO671.out) (Kd.R_base ho0) hb)
            have n4_ := Aside0.mk (Kd.V_elder' (by (with_reducible repeat (first | apply Kd.V_alloc | apply Kd.V_drewN | apply Kd.V_drew)); exact HO674.out) (Kd.R_base ho0) hb)
            have n5_ := Aside0.mk (Kd.R_elder' (by (with_reducible repeat (first | apply Kd.R_alloc | apply Kd.R_drewN | apply Kd.R_drew)); exact HO677.out) (Kd.R_base ho0) hb)
            have n6_ := Aside0.mk (Kd.R_elder' (by (with_reducible repeat (first | apply Kd.R_alloc | apply Kd.R_drewN | apply Kd.R_drew)); exact HO683.out) (Kd.R_base ho0) hb)
            have n7_ := Aside0.mk (Kd.R_elder' (by (with_reducible repeat (first | apply Kd.R_alloc | apply Kd.R_drewN | apply Kd.R_drew)); exact HO688.out) (Kd.R_base ho0) hb)
            have n8_ := Aside0.mk (Kd.R_elder' (by (with_reducible repeat (first | apply Kd.R_alloc | apply Kd.R_drewN | apply Kd.R_drew)); exact HO692.out) (Kd.R_base ho0) hb)
            have n9_ := Aside0.mk (Kd.R_elder' (by (with_reducible repeat (first | apply Kd.R_alloc | apply Kd.R_drewN | apply Kd.R_drew)); exact HO695.out) (Kd.R_base ho0) hb)
            have n10_ := Aside0.mk (Kd.R_elder' (by (with_reducible repeat (first | apply Kd.R_alloc | apply Kd.R_drewN | apply Kd.R_drew)); exact HO698.out) (Kd.R_base ho0) hb)
            have n11_ := Aside0.mk (Kd.R_lower (Kd.R_new' (Kd.R_new' (Kd.R_new' (Kd.R_new' (Kd.R_new' (Kd.R_new' (Kd.R_new' (Kd.R_new' ho0 (Kd.R_lt (by (with_reducible repeat (first | apply Kd.R_alloc | apply Kd.R_drewN | apply Kd.R_drew)); exact HO665.out))) (Kd.R_lt (by (with_reducible repeat (first | apply Kd.R_alloc | apply Kd.R_drewN | apply Kd.R_drew)); exact HO671.out))) (Kd.R_lt (by (with_reducible repeat (first | apply Kd.R_alloc | apply Kd.R_drewN | apply Kd.R_drew)); exact HO677.out))) (Kd.R_lt (by (with_reducible repeat (first | apply Kd.R_alloc | apply Kd.R_drewN | apply Kd.R_drew)); exact HO683.out))) (Kd.R_lt (by (with_reducible repeat (first | apply Kd.R_alloc | apply Kd.R_drewN | apply Kd.R_drew)); exact HO688.out))) (Kd.R_lt (by (with_reducible repeat (first | apply Kd.R_alloc | apply Kd.R_drewN | apply Kd.R_drew)); exact HO692.out))) (Kd.R_lt (by (with_reducible repeat (first | apply Kd.R_alloc | apply Kd.R_drewN | apply Kd.R_drew)); exact HO695.out))) (Kd.R_lt (by (with_reducible repeat (first | apply Kd.R_alloc | apply Kd.R_drewN | apply Kd.R_drew)); exact HO698.out))) (below_size (by repeat (first | (with_reducible first | exact HB.out | apply below_alloc | apply pw_below_drewN | apply below_drew1 | refine below_set ?_ GE678.out | refine below_set ?_ GE679.out | refine below_set ?_ GE680.out | refine below_set ?_ GE684.out) | exact HB.out))))
            have n12_ := Aside0.mk (blk_below (g := gb678) (o := .cells #[.slice Ao48 t663.length co48] 25 (0, 0)) (by (with_reducible repeat (first | refine blk_drewN ?_ _ | refine blk_drew ?_ | refine blk_alloc ?_ _)); exact BK678.out) hb)
            have n13_ := Aside0.mk (blk_below (g := gb679) (o := .cells #[.slice Ao52 t669.length co52] 25 (0, 0)) (by (with_reducible repeat (first | refine blk_drewN ?_ _ | refine blk_drew ?_ | refine blk_alloc ?_ _)); exact BK679.out) hb)
            have n14_ := Aside0.mk (blk_below (g := gb680) (o := .cells #[.slice Ao55 t675.length co55] 25 (0, 0)) (by (with_reducible repeat (first | refine blk_drewN ?_ _ | refine blk_drew ?_ | refine blk_alloc ?_ _)); exact BK680.out) hb)
            have n15_ := Aside0.mk (blk_below (g := gb684) (o := .cells #[.slice Ao59 t681.length co59] 25 (0, 0)) (by (with_reducible repeat (first | refine blk_drewN ?_ _ | refine blk_drew ?_ | refine blk_alloc ?_ _)); exact BK684.out) hb)
            have n16_ := Aside0.mk (below_step (by repeat (first | (with_reducible first | exact HB.out | apply below_alloc | apply pw_below_drewN | apply below_drew1 | refine below_set ?_ GE678.out | refine below_set ?_ GE679.out | refine below_set ?_ GE680.out | refine below_set ?_ GE684.out) | exact HB.out)) hb)
            clear HO662
            clear HO665
            clear HO668
            clear HO671
            clear HO674
            clear HO677
            clear HO683
            clear HO688
            clear HO692
            clear HO695
            clear HO698
            clear BK678
            clear BK679
            clear BK680
            clear BK684
            clear HB
            have HO662 := n0_
            have HO665 := n1_
            have HO668 := n2_
            have HO671 := n3_
            have HO674 := n4_
            have HO677 := n5_
            have HO683 := n6_
            have HO688 := n7_
            have HO692 := n8_
            have HO695 := n9_
            have HO698 := n10_
            have HO702 := n11_
            have BK678 := n12_
            have BK679 := n13_
            have BK680 := n14_
            have BK684 := n15_
            have HB := n16_
            clear n0_ n1_ n2_ n3_ n4_ n5_ n6_ n7_ n8_ n9_ n10_ n11_ n12_ n13_ n14_ n15_ n16_
            (try clear hb)
            (try clear hb2)
            (try clear hk)
            (try clear hi)
            (try clear ho0)
            obtain ⟨Ao78, co78, eo78⟩ := Kd.R_slice HO702.out
            (first | subst eo78 | (injection eo78 with f1_ f2_ f3_; have f4_ := f1_.symm; have f5_ := f3_.symm; clear f1_ f2_ f3_; subst f4_; subst f5_))
            refine hK.out _ _ ⟨(blk_cell BK684.out 0).trans rfl, (blk_cell BK679.out 0).trans rfl, (blk_cell BK678.out 0).trans rfl, (blk_cell BK680.out 0).trans rfl⟩ (fun hHeld => ?_)
            clear hK K
            refine norm_ (a' := ?_) ?_ ?_
            rotate_left
            · show Act.put _ (some 52) _ = _
              simp only [Act.put, List.setIfInBounds_toArray, List.set_cons_zero, List.set_cons_succ, i64_w, i32_w]
              rfl
            refine one_ (i := 26) (N := some 53) #[true, true, true, true, true, true, true, true, true, true, true, true, true, true, true, true, true, true, true, true, true, true, true, true, true, true, true, true, true, true, false, false, false, false, false, false, false, false, false, false, false, false, false, false, false, false, false, false, false, false, false, false, false, false, false, false, false, false, false, false] rfl rfl (one_of HT_.out (by kernel_rfl)) (by decide) (fun K hK => ?_)
            refine goes_ Try.func24 (by kernel_rfl) rfl #[.agg #[.slice Ao48 t663.length co48], .agg #[.slice Ao78 t700.length co78]] (by rfl) rfl rfl (by (try simp only [List.map_toArray, List.map_cons, List.map_nil]); first | done | rfl | (simp only [List.length_drop, List.length_take]; rfl)) ?_
            with_reducible refine (times_Mul.calls k _ _ t663 _ _ t700 t703 _ ?side1 ?side2 ?side3 ?side4 A22.out).mono ?_
            (case side1 => repeat (first | exact (Kd.R_reads' HO665.out).2.2 | (with_reducible refine Kd.C_alloc ?_ _) | (with_reducible refine Kd.C_drewN ?_ _) | (with_reducible refine Kd.C_drew ?_)))
            (case side2 => exact (Kd.R_reads' HO665.out).2.1)
            (case side3 => repeat (first | exact (Kd.R_reads' HO702.out).2.2 | (with_reducible refine Kd.C_alloc ?_ _) | (with_reducible refine Kd.C_drewN ?_ _) | (with_reducible refine Kd.C_drew ?_)))
            (case side4 => exact (Kd.R_reads' HO702.out).2.1)
            rintro e w79 ⟨v704, rfl, ho0, hb⟩
            refine ⟨_, rfl, ?_⟩
            have n0_ := Aside0.mk (Kd.V_elder' (by (with_reducible repeat (first | apply Kd.V_alloc | apply Kd.V_drewN | apply Kd.V_drew)); exact HO662.out) (Kd.R_base ho0) hb)
            have n1_ := Aside0.mk (Kd.R_elder' (by (with_reducible repeat (first | apply Kd.R_alloc | apply Kd.R_drewN | apply Kd.R_drew)); exact HO665.out) (Kd.R_base ho0) hb)
            have n2_ := Aside0.mk (Kd.V_elder' (by (with_reducible repeat (first | apply Kd.V_alloc | apply Kd.V_drewN | apply Kd.V_drew)); exact HO668.out) (Kd.R_base ho0) hb)
            have n3_ := Aside0.mk (Kd.R_elder' (by (with_reducible repeat (first | apply Kd.R_alloc | apply Kd.R_drewN | apply Kd.R_drew)); exact HO671.out) (Kd.R_base ho0) hb)
            have n4_ := Aside0.mk (Kd.V_elder' (by (with_reducible repeat (first | apply Kd.V_alloc | apply Kd.V_drewN | apply Kd.V_drew)); exact HO674.out) (Kd.R_base ho0) hb)
            have n5_ := Aside0.mk (Kd.R_elder' (by (with_reducible repeat (first | apply Kd.R_alloc | apply Kd.R_drewN | apply Kd.R_drew)); exact HO677.out) (Kd.R_base ho0) hb)
            have n6_ := Aside0.mk (Kd.R_elder' (by (with_reducible repeat (first | apply Kd.R_alloc | apply Kd.R_drewN | apply Kd.R_drew)); exact HO683.out) (Kd.R_base ho0) hb)
            have n7_ := Aside0.mk (Kd.R_elder' (by (with_reducible repeat (first | apply Kd.R_alloc | apply Kd.R_drewN | apply Kd.R_drew)); exact HO688.out) (Kd.R_base ho0) hb)
            have n8_ := Aside0.mk (Kd.R_elder' (by (with_reducible repeat (first | apply Kd.R_alloc | apply Kd.R_drewN | apply Kd.R_drew)); exact HO692.out) (Kd.R_base ho0) hb)
            have n9_ := Aside0.mk (Kd.R_elder' (by (with_reducible repeat (first | apply Kd.R_alloc | apply Kd.R_drewN | apply Kd.R_drew)); exact HO695.out) (Kd.R_base ho0) hb)
            have n10_ := Aside0.mk (Kd.R_elder' (by (with_reducible repeat (first | apply Kd.R_alloc | apply Kd.R_drewN | apply Kd.R_drew)); exact HO698.out) (Kd.R_base ho0) hb)
            have n11_ := Aside0.mk (Kd.R_elder' (by (with_reducible repeat (first | apply Kd.R_alloc | apply Kd.R_drewN | apply Kd.R_drew)); exact HO702.out) (Kd.R_base ho0) hb)
            have n12_ := Aside0.mk (Kd.R_lower (Kd.R_new' (Kd.R_new' (Kd.R_new' (Kd.R_new' (Kd.R_new' (Kd.R_new' (Kd.R_new' (Kd.R_new' (Kd.R_new' ho0 (Kd.R_lt (by (with_reducible repeat (first | apply Kd.R_alloc | apply Kd.R_drewN | apply Kd.R_drew)); exact HO665.out))) (Kd.R_lt (by (with_reducible repeat (first | apply Kd.R_alloc | apply Kd.R_drewN | apply Kd.R_drew)); exact HO671.out))) (Kd.R_lt (by (with_reducible repeat (first | apply Kd.R_alloc | apply Kd.R_drewN | apply Kd.R_drew)); exact HO677.out))) (Kd.R_lt (by (with_reducible repeat (first | apply Kd.R_alloc | apply Kd.R_drewN | apply Kd.R_drew)); exact HO683.out))) (Kd.R_lt (by (with_reducible repeat (first | apply Kd.R_alloc | apply Kd.R_drewN | apply Kd.R_drew)); exact HO688.out))) (Kd.R_lt (by (with_reducible repeat (first | apply Kd.R_alloc | apply Kd.R_drewN | apply Kd.R_drew)); exact HO692.out))) (Kd.R_lt (by (with_reducible repeat (first | apply Kd.R_alloc | apply Kd.R_drewN | apply Kd.R_drew)); exact HO695.out))) (Kd.R_lt (by (with_reducible repeat (first | apply Kd.R_alloc | apply Kd.R_drewN | apply Kd.R_drew)); exact HO698.out))) (Kd.R_lt (by (with_reducible repeat (first | apply Kd.R_alloc | apply Kd.R_drewN | apply Kd.R_drew)); exact HO702.out))) (below_size (by repeat (first | (with_reducible first | exact HB.out | apply below_alloc | apply pw_below_drewN | apply below_drew1 | refine below_set ?_ GE678.out | refine below_set ?_ GE679.out | refine below_set ?_ GE680.out | refine below_set ?_ GE684.out) | exact HB.out))))
            have n13_ := Aside0.mk (blk_below (g := gb678) (o := .cells #[.slice Ao48 t663.length co48] 25 (0, 0)) (by (with_reducible repeat (first | refine blk_drewN ?_ _ | refine blk_drew ?_ | refine blk_alloc ?_ _)); exact BK678.out) hb)
            have n14_ := Aside0.mk (blk_below (g := gb679) (o := .cells #[.slice Ao52 t669.length co52] 25 (0, 0)) (by (with_reducible repeat (first | refine blk_drewN ?_ _ | refine blk_drew ?_ | refine blk_alloc ?_ _)); exact BK679.out) hb)
            have n15_ := Aside0.mk (blk_below (g := gb680) (o := .cells #[.slice Ao55 t675.length co55] 25 (0, 0)) (by (with_reducible repeat (first | refine blk_drewN ?_ _ | refine blk_drew ?_ | refine blk_alloc ?_ _)); exact BK680.out) hb)
            have n16_ := Aside0.mk (blk_below (g := gb684) (o := .cells #[.slice Ao59 t681.length co59] 25 (0, 0)) (by (with_reducible repeat (first | refine blk_drewN ?_ _ | refine blk_drew ?_ | refine blk_alloc ?_ _)); exact BK684.out) hb)
            have n17_ := Aside0.mk (below_step (by repeat (first | (with_reducible first | exact HB.out | apply below_alloc | apply pw_below_drewN | apply below_drew1 | refine below_set ?_ GE678.out | refine below_set ?_ GE679.out | refine below_set ?_ GE680.out | refine below_set ?_ GE684.out) | exact HB.out)) hb)
            clear HO662
            clear HO665
            clear HO668
            clear HO671
            clear HO674
            clear HO677
            clear HO683
            clear HO688
            clear HO692
            clear HO695
            clear HO698
            clear HO702
            clear BK678
            clear BK679
            clear BK680
            clear BK684
            clear HB
            have HO662 := n0_
            have HO665 := n1_
            have HO668 := n2_
            have HO671 := n3_
            have HO674 := n4_
            have HO677 := n5_
            have HO683 := n6_
            have HO688 := n7_
            have HO692 := n8_
            have HO695 := n9_
            have HO698 := n10_
            have HO702 := n11_
            have HO705 := n12_
            have BK678 := n13_
            have BK679 := n14_
            have BK680 := n15_
            have BK684 := n16_
            have HB := n17_
            clear n0_ n1_ n2_ n3_ n4_ n5_ n6_ n7_ n8_ n9_ n10_ n11_ n12_ n13_ n14_ n15_ n16_ n17_
            (try clear hb)
            (try clear hb2)
            (try clear hk)
            (try clear hi)
            (try clear ho0)
            refine hK.out _ _ ⟨(blk_cell BK684.out 0).trans rfl, (blk_cell BK679.out 0).trans rfl, (blk_cell BK678.out 0).trans rfl, (blk_cell BK680.out 0).trans rfl⟩ (fun hHeld => ?_)
            clear hK K
            refine norm_ (a' := ?_) ?_ ?_
            rotate_left
            · show Act.put _ (some 53) _ = _
              simp only [Act.put, List.setIfInBounds_toArray, List.set_cons_zero, List.set_cons_succ, i64_w, i32_w]
              rfl
            refine one_ (i := 30) (N := some 57) #[true, true, true, true, true, true, true, true, true, true, true, true, true, true, true, true, true, true, true, true, true, true, true, true, true, true, true, true, true, true, true, false, false, false, false, false, false, false, false, false, false, false, false, false, false, false, false, false, false, false, false, false, false, false, false, false, false, false, false, false] rfl rfl (one_of HT_.out (by kernel_rfl)) (by decide) (fun K hK => ?_)
            refine goes_ Try.func24 (by kernel_rfl) rfl #[.agg #[.slice Ao48 t663.length co48], .agg #[.slice Ao55 t675.length co55]] (by rfl) rfl rfl (by (try simp only [List.map_toArray, List.map_cons, List.map_nil]); first | done | rfl | (simp only [List.length_drop, List.length_take]; rfl)) ?_
            with_reducible refine (times_Mul.calls k _ _ t663 _ _ t675 t706 _ ?side1 ?side2 ?side3 ?side4 A23.out).mono ?_
            (case side1 => repeat (first | exact (Kd.R_reads' HO665.out).2.2 | (with_reducible refine Kd.C_alloc ?_ _) | (with_reducible refine Kd.C_drewN ?_ _) | (with_reducible refine Kd.C_drew ?_)))
            (case side2 => exact (Kd.R_reads' HO665.out).2.1)
            (case side3 => repeat (first | exact (Kd.R_reads' HO677.out).2.2 | (with_reducible refine Kd.C_alloc ?_ _) | (with_reducible refine Kd.C_drewN ?_ _) | (with_reducible refine Kd.C_drew ?_)))
            (case side4 => exact (Kd.R_reads' HO677.out).2.1)
            rintro e w80 ⟨v707, rfl, ho0, hb⟩
            refine ⟨_, rfl, ?_⟩
            have n0_ := Aside0.mk (Kd.V_elder' (by (with_reducible repeat (first | apply Kd.V_alloc | apply Kd.V_drewN | apply Kd.V_drew)); exact HO662.out) (Kd.R_base ho0) hb)
            have n1_ := Aside0.mk (Kd.R_elder' (by (with_reducible repeat (first | apply Kd.R_alloc | apply Kd.R_drewN | apply Kd.R_drew)); exact HO665.out) (Kd.R_base ho0) hb)
            have n2_ := Aside0.mk (Kd.V_elder' (by (with_reducible repeat (first | apply Kd.V_alloc | apply Kd.V_drewN | apply Kd.V_drew)); exact HO668.out) (Kd.R_base ho0) hb)
            have n3_ := Aside0.mk (Kd.R_elder' (by (with_reducible repeat (first | apply Kd.R_alloc | apply Kd.R_drewN | apply Kd.R_drew)); exact HO671.out) (Kd.R_base ho0) hb)
            have n4_ := Aside0.mk (Kd.V_elder' (by (with_reducible repeat (first | apply Kd.V_alloc | apply Kd.V_drewN | apply Kd.V_drew)); exact HO674.out) (Kd.R_base ho0) hb)
            have n5_ := Aside0.mk (Kd.R_elder' (by (with_reducible repeat (first | apply Kd.R_alloc | apply Kd.R_drewN | apply Kd.R_drew)); exact HO677.out) (Kd.R_base ho0) hb)
            have n6_ := Aside0.mk (Kd.R_elder' (by (with_reducible repeat (first | apply Kd.R_alloc | apply Kd.R_drewN | apply Kd.R_drew)); exact HO683.out) (Kd.R_base ho0) hb)
            have n7_ := Aside0.mk (Kd.R_elder' (by (with_reducible repeat (first | apply Kd.R_alloc | apply Kd.R_drewN | apply Kd.R_drew)); exact HO688.out) (Kd.R_base ho0) hb)
            have n8_ := Aside0.mk (Kd.R_elder' (by (with_reducible repeat (first | apply Kd.R_alloc | apply Kd.R_drewN | apply Kd.R_drew)); exact HO692.out) (Kd.R_base ho0) hb)
            have n9_ := Aside0.mk (Kd.R_elder' (by (with_reducible repeat (first | apply Kd.R_alloc | apply Kd.R_drewN | apply Kd.R_drew)); exact HO695.out) (Kd.R_base ho0) hb)
            have n10_ := Aside0.mk (Kd.R_elder' (by (with_reducible repeat (first | apply Kd.R_alloc | apply Kd.R_drewN | apply Kd.R_drew)); exact HO698.out) (Kd.R_base ho0) hb)
            have n11_ := Aside0.mk (Kd.R_elder' (by (with_reducible repeat (first | apply Kd.R_alloc | apply Kd.R_drewN | apply Kd.R_drew)); exact HO702.out) (Kd.R_base ho0) hb)
            have n12_ := Aside0.mk (Kd.R_elder' (by (with_reducible repeat (first | apply Kd.R_alloc | apply Kd.R_drewN | apply Kd.R_drew)); exact HO705.out) (Kd.R_base ho0) hb)
            have n13_ := Aside0.mk (Kd.R_lower (Kd.R_new' (Kd.R_new' (Kd.R_new' (Kd.R_new' (Kd.R_new' (Kd.R_new' (Kd.R_new' (Kd.R_new' (Kd.R_new' (Kd.R_new' ho0 (Kd.R_lt (by (with_reducible repeat (first | apply Kd.R_alloc | apply Kd.R_drewN | apply Kd.R_drew)); exact HO665.out))) (Kd.R_lt (by (with_reducible repeat (first | apply Kd.R_alloc | apply Kd.R_drewN | apply Kd.R_drew)); exact HO671.out))) (Kd.R_lt (by (with_reducible repeat (first | apply Kd.R_alloc | apply Kd.R_drewN | apply Kd.R_drew)); exact HO677.out))) (Kd.R_lt (by (with_reducible repeat (first | apply Kd.R_alloc | apply Kd.R_drewN | apply Kd.R_drew)); exact HO683.out))) (Kd.R_lt (by (with_reducible repeat (first | apply Kd.R_alloc | apply Kd.R_drewN | apply Kd.R_drew)); exact HO688.out))) (Kd.R_lt (by (with_reducible repeat (first | apply Kd.R_alloc | apply Kd.R_drewN | apply Kd.R_drew)); exact HO692.out))) (Kd.R_lt (by (with_reducible repeat (first | apply Kd.R_alloc | apply Kd.R_drewN | apply Kd.R_drew)); exact HO695.out))) (Kd.R_lt (by (with_reducible repeat (first | apply Kd.R_alloc | apply Kd.R_drewN | apply Kd.R_drew)); exact HO698.out))) (Kd.R_lt (by (with_reducible repeat (first | apply Kd.R_alloc | apply Kd.R_drewN | apply Kd.R_drew)); exact HO702.out))) (Kd.R_lt (by (with_reducible repeat (first | apply Kd.R_alloc | apply Kd.R_drewN | apply Kd.R_drew)); exact HO705.out))) (below_size (by repeat (first | (with_reducible first | exact HB.out | apply below_alloc | apply pw_below_drewN | apply below_drew1 | refine below_set ?_ GE678.out | refine below_set ?_ GE679.out | refine below_set ?_ GE680.out | refine below_set ?_ GE684.out) | exact HB.out))))
            have n14_ := Aside0.mk (blk_below (g := gb678) (o := .cells #[.slice Ao48 t663.length co48] 25 (0, 0)) (by (with_reducible repeat (first | refine blk_drewN ?_ _ | refine blk_drew ?_ | refine blk_alloc ?_ _)); exact BK678.out) hb)
            have n15_ := Aside0.mk (blk_below (g := gb679) (o := .cells #[.slice Ao52 t669.length co52] 25 (0, 0)) (by (with_reducible repeat (first | refine blk_drewN ?_ _ | refine blk_drew ?_ | refine blk_alloc ?_ _)); exact BK679.out) hb)
            have n16_ := Aside0.mk (blk_below (g := gb680) (o := .cells #[.slice Ao55 t675.length co55] 25 (0, 0)) (by (with_reducible repeat (first | refine blk_drewN ?_ _ | refine blk_drew ?_ | refine blk_alloc ?_ _)); exact BK680.out) hb)
            have n17_ := Aside0.mk (blk_below (g := gb684) (o := .cells #[.slice Ao59 t681.length co59] 25 (0, 0)) (by (with_reducible repeat (first | refine blk_drewN ?_ _ | refine blk_drew ?_ | refine blk_alloc ?_ _)); exact BK684.out) hb)
            have n18_ := Aside0.mk (below_step (by repeat (first | (with_reducible first | exact HB.out | apply below_alloc | apply pw_below_drewN | apply below_drew1 | refine below_set ?_ GE678.out | refine below_set ?_ GE679.out | refine below_set ?_ GE680.out | refine below_set ?_ GE684.out) | exact HB.out)) hb)
            clear HO662
            clear HO665
            clear HO668
            clear HO671
            clear HO674
            clear HO677
            clear HO683
            clear HO688
            clear HO692
            clear HO695
            clear HO698
            clear HO702
            clear HO705
            clear BK678
            clear BK679
            clear BK680
            clear BK684
            clear HB
            have HO662 := n0_
            have HO665 := n1_
            have HO668 := n2_
            have HO671 := n3_
            have HO674 := n4_
            have HO677 := n5_
            have HO683 := n6_
            have HO688 := n7_
            have HO692 := n8_
            have HO695 := n9_
            have HO698 := n10_
            have HO702 := n11_
            have HO705 := n12_
            have HO708 := n13_
            have BK678 := n14_
            have BK679 := n15_
            have BK680 := n16_
            have BK684 := n17_
            have HB := n18_
            clear n0_ n1_ n2_ n3_ n4_ n5_ n6_ n7_ n8_ n9_ n10_ n11_ n12_ n13_ n14_ n15_ n16_ n17_ n18_
            (try clear hb)
            (try clear hb2)
            (try clear hk)
            (try clear hi)
            (try clear ho0)
            obtain ⟨Ao81, co81, eo81⟩ := Kd.R_slice HO708.out
            (first | subst eo81 | (injection eo81 with f1_ f2_ f3_; have f4_ := f1_.symm; have f5_ := f3_.symm; clear f1_ f2_ f3_; subst f4_; subst f5_))
            refine hK.out _ _ ⟨(blk_cell BK684.out 0).trans rfl, (blk_cell BK679.out 0).trans rfl, (blk_cell BK678.out 0).trans rfl, (blk_cell BK680.out 0).trans rfl⟩ (fun hHeld => ?_)
            clear hK K
            refine norm_ (a' := ?_) ?_ ?_
            rotate_left
            · show Act.put _ (some 57) _ = _
              simp only [Act.put, List.setIfInBounds_toArray, List.set_cons_zero, List.set_cons_succ, i64_w, i32_w]
              rfl
            refine one_ (i := 31) (N := some 58) #[true, true, true, true, true, true, true, true, true, true, true, true, true, true, true, true, true, true, true, true, true, true, true, true, true, true, true, true, true, true, true, true, false, false, false, false, false, false, false, false, false, false, false, false, false, false, false, false, false, false, false, false, false, false, false, false, false, false, false, false] rfl rfl (one_of HT_.out (by kernel_rfl)) (by decide) (fun K hK => ?_)
            refine goes_ Try.func38 (by kernel_rfl) rfl #[.agg #[.slice Ao59 t681.length co59], .agg #[.slice Ao81 t706.length co81]] (by rfl) rfl rfl (by (try simp only [List.map_toArray, List.map_cons, List.map_nil]); first | done | rfl | (simp only [List.length_drop, List.length_take]; rfl)) ?_
            with_reducible refine (nat_Add.calls k _ _ t681 _ _ t706 t709 _ ?side1 ?side2 ?side3 ?side4 A24.out).mono ?_
            (case side1 => repeat (first | exact (Kd.R_reads' HO683.out).2.2 | (with_reducible refine Kd.C_alloc ?_ _) | (with_reducible refine Kd.C_drewN ?_ _) | (with_reducible refine Kd.C_drew ?_)))
            (case side2 => exact (Kd.R_reads' HO683.out).2.1)
            (case side3 => repeat (first | exact (Kd.R_reads' HO708.out).2.2 | (with_reducible refine Kd.C_alloc ?_ _) | (with_reducible refine Kd.C_drewN ?_ _) | (with_reducible refine Kd.C_drew ?_)))
            (case side4 => exact (Kd.R_reads' HO708.out).2.1)
            rintro e w82 ⟨v710, rfl, ho0, hb⟩
            refine ⟨_, rfl, ?_⟩
            have n0_ := Aside0.mk (Kd.V_elder' (by (with_reducible repeat (first | apply Kd.V_alloc | apply Kd.V_drewN | apply Kd.V_drew)); exact HO662.out) (Kd.R_base ho0) hb)
            have n1_ := Aside0.mk (Kd.R_elder' (by (with_reducible repeat (first | apply Kd.R_alloc | apply Kd.R_drewN | apply Kd.R_drew)); exact HO665.out) (Kd.R_base ho0) hb)
            have n2_ := Aside0.mk (Kd.V_elder' (by (with_reducible repeat (first | apply Kd.V_alloc | apply Kd.V_drewN | apply Kd.V_drew)); exact HO668.out) (Kd.R_base ho0) hb)
            have n3_ := Aside0.mk (Kd.R_elder' (by (with_reducible repeat (first | apply Kd.R_alloc | apply Kd.R_drewN | apply Kd.R_drew)); exact HO671.out) (Kd.R_base ho0) hb)
            have n4_ := Aside0.mk (Kd.V_elder' (by (with_reducible repeat (first | apply Kd.V_alloc | apply Kd.V_drewN | apply Kd.V_drew)); exact HO674.out) (Kd.R_base ho0) hb)
            have n5_ := Aside0.mk (Kd.R_elder' (by (with_reducible repeat (first | apply Kd.R_alloc | apply Kd.R_drewN | apply Kd.R_drew)); exact HO677.out) (Kd.R_base ho0) hb)
            have n6_ := Aside0.mk (Kd.R_elder' (by (with_reducible repeat (first | apply Kd.R_alloc | apply Kd.R_drewN | apply Kd.R_drew)); exact HO683.out) (Kd.R_base ho0) hb)
            have n7_ := Aside0.mk (Kd.R_elder' (by (with_reducible repeat (first | apply Kd.R_alloc | apply Kd.R_drewN | apply Kd.R_drew)); exact HO688.out) (Kd.R_base ho0) hb)
            have n8_ := Aside0.mk (Kd.R_elder' (by (with_reducible repeat (first | apply Kd.R_alloc | apply Kd.R_drewN | apply Kd.R_drew)); exact HO692.out) (Kd.R_base ho0) hb)
            have n9_ := Aside0.mk (Kd.R_elder' (by (with_reducible repeat (first | apply Kd.R_alloc | apply Kd.R_drewN | apply Kd.R_drew)); exact HO695.out) (Kd.R_base ho0) hb)
            have n10_ := Aside0.mk (Kd.R_elder' (by (with_reducible repeat (first | apply Kd.R_alloc | apply Kd.R_drewN | apply Kd.R_drew)); exact HO698.out) (Kd.R_base ho0) hb)
            have n11_ := Aside0.mk (Kd.R_elder' (by (with_reducible repeat (first | apply Kd.R_alloc | apply Kd.R_drewN | apply Kd.R_drew)); exact HO702.out) (Kd.R_base ho0) hb)
            have n12_ := Aside0.mk (Kd.R_elder' (by (with_reducible repeat (first | apply Kd.R_alloc | apply Kd.R_drewN | apply Kd.R_drew)); exact HO705.out) (Kd.R_base ho0) hb)
            have n13_ := Aside0.mk (Kd.R_elder' (by (with_reducible repeat (first | apply Kd.R_alloc | apply Kd.R_drewN | apply Kd.R_drew)); exact HO708.out) (Kd.R_base ho0) hb)
            have n14_ := Aside0.mk (Kd.R_lower (Kd.R_new' (Kd.R_new' (Kd.R_new' (Kd.R_new' (Kd.R_new' (Kd.R_new' (Kd.R_new' (Kd.R_new' (Kd.R_new' (Kd.R_new' (Kd.R_new' ho0 (Kd.R_lt (by (with_reducible repeat (first | apply Kd.R_alloc | apply Kd.R_drewN | apply Kd.R_drew)); exact HO665.out))) (Kd.R_lt (by (with_reducible repeat (first | apply Kd.R_alloc | apply Kd.R_drewN | apply Kd.R_drew)); exact HO671.out))) (Kd.R_lt (by (with_reducible repeat (first | apply Kd.R_alloc | apply Kd.R_drewN | apply Kd.R_drew)); exact HO677.out))) (Kd.R_lt (by (with_reducible repeat (first | apply Kd.R_alloc | apply Kd.R_drewN | apply Kd.R_drew)); exact HO683.out))) (Kd.R_lt (by (with_reducible repeat (first | apply Kd.R_alloc | apply Kd.R_drewN | apply Kd.R_drew)); exact HO688.out))) (Kd.R_lt (by (with_reducible repeat (first | apply Kd.R_alloc | apply Kd.R_drewN | apply Kd.R_drew)); exact HO692.out))) (Kd.R_lt (by (with_reducible repeat (first | apply Kd.R_alloc | apply Kd.R_drewN | apply Kd.R_drew)); exact HO695.out))) (Kd.R_lt (by (with_reducible repeat (first | apply Kd.R_alloc | apply Kd.R_drewN | apply Kd.R_drew)); exact HO698.out))) (Kd.R_lt (by (with_reducible repeat (first | apply Kd.R_alloc | apply Kd.R_drewN | apply Kd.R_drew)); exact HO702.out))) (Kd.R_lt (by (with_reducible repeat (first | apply Kd.R_alloc | apply Kd.R_drewN | apply Kd.R_drew)); exact HO705.out))) (Kd.R_lt (by (with_reducible repeat (first | apply Kd.R_alloc | apply Kd.R_drewN | apply Kd.R_drew)); exact HO708.out))) (below_size (by repeat (first | (with_reducible first | exact HB.out | apply below_alloc | apply pw_below_drewN | apply below_drew1 | refine below_set ?_ GE678.out | refine below_set ?_ GE679.out | refine below_set ?_ GE680.out | refine below_set ?_ GE684.out) | exact HB.out))))
            have n15_ := Aside0.mk (blk_below (g := gb678) (o := .cells #[.slice Ao48 t663.length co48] 25 (0, 0)) (by (with_reducible repeat (first | refine blk_drewN ?_ _ | refine blk_drew ?_ | refine blk_alloc ?_ _)); exact BK678.out) hb)
            have n16_ := Aside0.mk (blk_below (g := gb679) (o := .cells #[.slice Ao52 t669.length co52] 25 (0, 0)) (by (with_reducible repeat (first | refine blk_drewN ?_ _ | refine blk_drew ?_ | refine blk_alloc ?_ _)); exact BK679.out) hb)
            have n17_ := Aside0.mk (blk_below (g := gb680) (o := .cells #[.slice Ao55 t675.length co55] 25 (0, 0)) (by (with_reducible repeat (first | refine blk_drewN ?_ _ | refine blk_drew ?_ | refine blk_alloc ?_ _)); exact BK680.out) hb)
            have n18_ := Aside0.mk (blk_below (g := gb684) (o := .cells #[.slice Ao59 t681.length co59] 25 (0, 0)) (by (with_reducible repeat (first | refine blk_drewN ?_ _ | refine blk_drew ?_ | refine blk_alloc ?_ _)); exact BK684.out) hb)
            have n19_ := Aside0.mk (below_step (by repeat (first | (with_reducible first | exact HB.out | apply below_alloc | apply pw_below_drewN | apply below_drew1 | refine below_set ?_ GE678.out | refine below_set ?_ GE679.out | refine below_set ?_ GE680.out | refine below_set ?_ GE684.out) | exact HB.out)) hb)
            clear HO662
            clear HO665
            clear HO668
            clear HO671
            clear HO674
            clear HO677
            clear HO683
            clear HO688
            clear HO692
            clear HO695
            clear HO698
            clear HO702
            clear HO705
            clear HO708
            clear BK678
            clear BK679
            clear BK680
            clear BK684
            clear HB
            have HO662 := n0_
            have HO665 := n1_
            have HO668 := n2_
            have HO671 := n3_
            have HO674 := n4_
            have HO677 := n5_
            have HO683 := n6_
            have HO688 := n7_
            have HO692 := n8_
            have HO695 := n9_
            have HO698 := n10_
            have HO702 := n11_
            have HO705 := n12_
            have HO708 := n13_
            have HO711 := n14_
            have BK678 := n15_
            have BK679 := n16_
            have BK680 := n17_
            have BK684 := n18_
            have HB := n19_
            clear n0_ n1_ n2_ n3_ n4_ n5_ n6_ n7_ n8_ n9_ n10_ n11_ n12_ n13_ n14_ n15_ n16_ n17_ n18_ n19_
            (try clear hb)
            (try clear hb2)
            (try clear hk)
            (try clear hi)
            (try clear ho0)
            obtain ⟨Ao83, co83, eo83⟩ := Kd.R_slice HO705.out
            (first | subst eo83 | (injection eo83 with f1_ f2_ f3_; have f4_ := f1_.symm; have f5_ := f3_.symm; clear f1_ f2_ f3_; subst f4_; subst f5_))
            obtain ⟨Ao84, co84, eo84⟩ := Kd.R_slice HO711.out
            (first | subst eo84 | (injection eo84 with f1_ f2_ f3_; have f4_ := f1_.symm; have f5_ := f3_.symm; clear f1_ f2_ f3_; subst f4_; subst f5_))
            refine hK.out _ _ ⟨(blk_cell BK684.out 0).trans rfl, (blk_cell BK679.out 0).trans rfl, (blk_cell BK678.out 0).trans rfl, (blk_cell BK680.out 0).trans rfl⟩ (fun hHeld => ?_)
            clear hK K
            refine norm_ (a' := ?_) ?_ ?_
            rotate_left
            · show Act.put _ (some 58) _ = _
              simp only [Act.put, List.setIfInBounds_toArray, List.set_cons_zero, List.set_cons_succ, i64_w, i32_w]
              rfl
            refine one_ (i := 32) (N := some 59) #[true, true, true, true, true, true, true, true, true, true, true, true, true, true, true, true, true, true, true, true, true, true, true, true, true, true, true, true, true, true, true, true, true, false, false, false, false, false, false, false, false, false, false, false, false, false, false, false, false, false, false, false, false, false, false, false, false, false, false, false] rfl rfl (one_of HT_.out (by kernel_rfl)) (by decide) (fun K hK => ?_)
            refine goes_ Try.func37 (by kernel_rfl) rfl #[.agg #[.slice Ao83 t703.length co83], .agg #[.slice Ao84 t709.length co84]] (by rfl) rfl rfl (by (try simp only [List.map_toArray, List.map_cons, List.map_nil]); first | done | rfl | (simp only [List.length_drop, List.length_take]; rfl)) ?_
            with_reducible refine (nat_Cmp.calls k _ _ t703 _ _ t709 t712 _ ?side1 ?side2 ?side3 ?side4 A25.out).mono ?_
            (case side1 => repeat (first | exact (Kd.R_reads' HO705.out).2.2 | (with_reducible refine Kd.C_alloc ?_ _) | (with_reducible refine Kd.C_drewN ?_ _) | (with_reducible refine Kd.C_drew ?_)))
            (case side2 => exact (Kd.R_reads' HO705.out).2.1)
            (case side3 => repeat (first | exact (Kd.R_reads' HO711.out).2.2 | (with_reducible refine Kd.C_alloc ?_ _) | (with_reducible refine Kd.C_drewN ?_ _) | (with_reducible refine Kd.C_drew ?_)))
            (case side4 => exact (Kd.R_reads' HO711.out).2.1)
            rintro e w85 ⟨rfl, hb⟩
            refine ⟨_, rfl, ?_⟩
            have n0_ := Aside0.mk (Kd.V_below (by (with_reducible repeat (first | apply Kd.V_alloc | apply Kd.V_drewN | apply Kd.V_drew)); exact HO662.out) hb)
            have n1_ := Aside0.mk (Kd.R_below (by (with_reducible repeat (first | apply Kd.R_alloc | apply Kd.R_drewN | apply Kd.R_drew)); exact HO665.out) hb)
            have n2_ := Aside0.mk (Kd.V_below (by (with_reducible repeat (first | apply Kd.V_alloc | apply Kd.V_drewN | apply Kd.V_drew)); exact HO668.out) hb)
            have n3_ := Aside0.mk (Kd.R_below (by (with_reducible repeat (first | apply Kd.R_alloc | apply Kd.R_drewN | apply Kd.R_drew)); exact HO671.out) hb)
            have n4_ := Aside0.mk (Kd.V_below (by (with_reducible repeat (first | apply Kd.V_alloc | apply Kd.V_drewN | apply Kd.V_drew)); exact HO674.out) hb)
            have n5_ := Aside0.mk (Kd.R_below (by (with_reducible repeat (first | apply Kd.R_alloc | apply Kd.R_drewN | apply Kd.R_drew)); exact HO677.out) hb)
            have n6_ := Aside0.mk (Kd.R_below (by (with_reducible repeat (first | apply Kd.R_alloc | apply Kd.R_drewN | apply Kd.R_drew)); exact HO683.out) hb)
            have n7_ := Aside0.mk (Kd.R_below (by (with_reducible repeat (first | apply Kd.R_alloc | apply Kd.R_drewN | apply Kd.R_drew)); exact HO688.out) hb)
            have n8_ := Aside0.mk (Kd.R_below (by (with_reducible repeat (first | apply Kd.R_alloc | apply Kd.R_drewN | apply Kd.R_drew)); exact HO692.out) hb)
            have n9_ := Aside0.mk (Kd.R_below (by (with_reducible repeat (first | apply Kd.R_alloc | apply Kd.R_drewN | apply Kd.R_drew)); exact HO695.out) hb)
            have n10_ := Aside0.mk (Kd.R_below (by (with_reducible repeat (first | apply Kd.R_alloc | apply Kd.R_drewN | apply Kd.R_drew)); exact HO698.out) hb)
            have n11_ := Aside0.mk (Kd.R_below (by (with_reducible repeat (first | apply Kd.R_alloc | apply Kd.R_drewN | apply Kd.R_drew)); exact HO702.out) hb)
            have n12_ := Aside0.mk (Kd.R_below (by (with_reducible repeat (first | apply Kd.R_alloc | apply Kd.R_drewN | apply Kd.R_drew)); exact HO705.out) hb)
            have n13_ := Aside0.mk (Kd.R_below (by (with_reducible repeat (first | apply Kd.R_alloc | apply Kd.R_drewN | apply Kd.R_drew)); exact HO708.out) hb)
            have n14_ := Aside0.mk (Kd.R_below (by (with_reducible repeat (first | apply Kd.R_alloc | apply Kd.R_drewN | apply Kd.R_drew)); exact HO711.out) hb)
            have n15_ := Aside0.mk (blk_below (g := gb678) (o := .cells #[.slice Ao48 t663.length co48] 25 (0, 0)) (by (with_reducible repeat (first | refine blk_drewN ?_ _ | refine blk_drew ?_ | refine blk_alloc ?_ _)); exact BK678.out) hb)
            have n16_ := Aside0.mk (blk_below (g := gb679) (o := .cells #[.slice Ao52 t669.length co52] 25 (0, 0)) (by (with_reducible repeat (first | refine blk_drewN ?_ _ | refine blk_drew ?_ | refine blk_alloc ?_ _)); exact BK679.out) hb)
            have n17_ := Aside0.mk (blk_below (g := gb680) (o := .cells #[.slice Ao55 t675.length co55] 25 (0, 0)) (by (with_reducible repeat (first | refine blk_drewN ?_ _ | refine blk_drew ?_ | refine blk_alloc ?_ _)); exact BK680.out) hb)
            have n18_ := Aside0.mk (blk_below (g := gb684) (o := .cells #[.slice Ao59 t681.length co59] 25 (0, 0)) (by (with_reducible repeat (first | refine blk_drewN ?_ _ | refine blk_drew ?_ | refine blk_alloc ?_ _)); exact BK684.out) hb)
            have n19_ := Aside0.mk (below_step (by repeat (first | (with_reducible first | exact HB.out | apply below_alloc | apply pw_below_drewN | apply below_drew1 | refine below_set ?_ GE678.out | refine below_set ?_ GE679.out | refine below_set ?_ GE680.out | refine below_set ?_ GE684.out) | exact HB.out)) hb)
            clear HO662
            clear HO665
            clear HO668
            clear HO671
            clear HO674
            clear HO677
            clear HO683
            clear HO688
            clear HO692
            clear HO695
            clear HO698
            clear HO702
            clear HO705
            clear HO708
            clear HO711
            clear BK678
            clear BK679
            clear BK680
            clear BK684
            clear HB
            have HO662 := n0_
            have HO665 := n1_
            have HO668 := n2_
            have HO671 := n3_
            have HO674 := n4_
            have HO677 := n5_
            have HO683 := n6_
            have HO688 := n7_
            have HO692 := n8_
            have HO695 := n9_
            have HO698 := n10_
            have HO702 := n11_
            have HO705 := n12_
            have HO708 := n13_
            have HO711 := n14_
            have BK678 := n15_
            have BK679 := n16_
            have BK680 := n17_
            have BK684 := n18_
            have HB := n19_
            clear n0_ n1_ n2_ n3_ n4_ n5_ n6_ n7_ n8_ n9_ n10_ n11_ n12_ n13_ n14_ n15_ n16_ n17_ n18_ n19_
            (try clear hb)
            (try clear hb2)
            (try clear hk)
            (try clear hi)
            refine hK.out _ _ ⟨(blk_cell BK684.out 0).trans rfl, (blk_cell BK679.out 0).trans rfl, (blk_cell BK678.out 0).trans rfl, (blk_cell BK680.out 0).trans rfl⟩ (fun hHeld => ?_)
            clear hK K
            refine norm_ (a' := ?_) ?_ ?_
            rotate_left
            · show Act.put _ (some 59) _ = _
              simp only [Act.put, List.setIfInBounds_toArray, List.set_cons_zero, List.set_cons_succ, i64_w, i32_w]
              rfl
            refine pure_ (i := 33) (N := some 60) (v := ?_) (a' := ?_) #[true, true, true, true, true, true, true, true, true, true, true, true, true, true, true, true, true, true, true, true, true, true, true, true, true, true, true, true, true, true, true, true, true, true, false, false, false, false, false, false, false, false, false, false, false, false, false, false, false, false, false, false, false, false, false, false, false, false, false, false] rfl rfl (any_of HT_.out (by kernel_rfl)) (fun _ _ _ h => h) (Or.inl ⟨by rfl, ?_⟩) ?_ ?_
            rotate_left
            · intro w'
              go_simp
              with_reducible rfl
            rotate_left
            · simp only [Act.put, List.setIfInBounds_toArray, List.set_cons_zero, List.set_cons_succ, i64_w, i32_w]
              rfl
            refine pure_ (i := 34) (N := some 61) (v := ?_) (a' := ?_) #[true, true, true, true, true, true, true, true, true, true, true, true, true, true, true, true, true, true, true, true, true, true, true, true, true, true, true, true, true, true, true, true, true, true, true, false, false, false, false, false, false, false, false, false, false, false, false, false, false, false, false, false, false, false, false, false, false, false, false, false] rfl rfl (any_of HT_.out (by kernel_rfl)) (fun _ _ _ h => h) (Or.inl ⟨by rfl, ?_⟩) ?_ ?_
            rotate_left
            · intro w'
              go_simp
              with_reducible rfl
            rotate_left
            · simp only [Act.put, List.setIfInBounds_toArray, List.set_cons_zero, List.set_cons_succ, i64_w, i32_w]
              rfl
            refine pure_ (i := 35) (N := some 62) (v := ?_) (a' := ?_) #[true, true, true, true, true, true, true, true, true, true, true, true, true, true, true, true, true, true, true, true, true, true, true, true, true, true, true, true, true, true, true, true, true, true, true, true, false, false, false, false, false, false, false, false, false, false, false, false, false, false, false, false, false, false, false, false, false, false, false, false] rfl rfl (any_of HT_.out (by kernel_rfl)) (fun _ _ _ h => h) (Or.inl ⟨by rfl, ?_⟩) ?_ ?_
            rotate_left
            · intro w'
              go_simp
              with_reducible rfl
            rotate_left
            · simp only [Act.put, List.setIfInBounds_toArray, List.set_cons_zero, List.set_cons_succ, i64_w, i32_w]
              rfl
            refine pure_ (i := 37) (N := some 64) (v := ?_) (a' := ?_) #[true, true, true, true, true, true, true, true, true, true, true, true, true, true, true, true, true, true, true, true, true, true, true, true, true, true, true, true, true, true, true, true, true, true, true, true, false, true, false, false, false, false, false, false, false, false, false, false, false, false, false, false, false, false, false, false, false, false, false, false] rfl rfl (any_of HT_.out (by kernel_rfl)) (fun _ _ _ h => h) (Or.inl ⟨by rfl, ?_⟩) ?_ ?_
            rotate_left
            · intro w'
              go_simp
              with_reducible rfl
            rotate_left
            · simp only [Act.put, List.setIfInBounds_toArray, List.set_cons_zero, List.set_cons_succ, i64_w, i32_w]
              rfl
            refine pure_ (i := 43) (N := some 70) (v := ?_) (a' := ?_) #[true, true, true, true, true, true, true, true, true, true, true, true, true, true, true, true, true, true, true, true, true, true, true, true, true, true, true, true, true, true, true, true, true, true, true, true, false, true, false, false, false, false, false, true, false, false, false, false, false, false, false, false, false, false, false, false, false, false, false, false] rfl rfl (any_of HT_.out (by kernel_rfl)) (fun _ _ _ h => h) (Or.inl ⟨by rfl, ?_⟩) ?_ ?_
            rotate_left
            · intro w'
              go_simp
              with_reducible rfl
            rotate_left
            · simp only [Act.put, List.setIfInBounds_toArray, List.set_cons_zero, List.set_cons_succ, i64_w, i32_w]
              rfl
            refine pure_ (i := 44) (N := some 71) (v := ?_) (a' := ?_) #[true, true, true, true, true, true, true, true, true, true, true, true, true, true, true, true, true, true, true, true, true, true, true, true, true, true, true, true, true, true, true, true, true, true, true, true, false, true, false, false, false, false, false, true, true, false, false, false, false, false, false, false, false, false, false, false, false, false, false, false] rfl rfl (any_of HT_.out (by kernel_rfl)) (fun _ _ _ h => h) (Or.inl ⟨by rfl, ?_⟩) ?_ ?_
            rotate_left
            · intro w'
              go_simp
              with_reducible rfl
            rotate_left
            · simp only [Act.put, List.setIfInBounds_toArray, List.set_cons_zero, List.set_cons_succ, i64_w, i32_w]
              rfl
            refine take_ (i := 36) (N := some 63) (v := ?_) (a' := ?_) #[true, true, true, true, true, true, true, true, true, true, true, true, true, true, true, true, true, true, true, true, true, true, true, true, true, true, true, true, true, true, true, true, true, true, true, true, true, true, false, false, false, false, false, true, true, false, false, false, false, false, false, false, false, false, false, false, false, false, false, false] rfl rfl (take_ofW HT_.out HW_.out (by kernel_rfl)) (fun _ _ _ h => h) (Or.inl ⟨by rfl, ?_⟩) hHeld ?_ ?_
            rotate_left
            · rintro w' ⟨s0, s1, s2, s3⟩
              go_simp
              with_reducible rfl
            rotate_left
            · simp only [Act.put, List.setIfInBounds_toArray, List.set_cons_zero, List.set_cons_succ, i64_w, i32_w]
              rfl
            refine take_ (i := 39) (N := some 66) (v := ?_) (a' := ?_) #[true, true, true, true, true, true, true, true, true, true, true, true, true, true, true, true, true, true, true, true, true, true, true, true, true, true, true, true, true, true, true, true, true, true, true, true, true, true, false, true, false, false, false, true, true, false, false, false, false, false, false, false, false, false, false, false, false, false, false, false] rfl rfl (take_ofW HT_.out HW_.out (by kernel_rfl)) (fun _ _ _ h => h) (Or.inl ⟨by rfl, ?_⟩) hHeld ?_ ?_
            rotate_left
            · rintro w' ⟨s0, s1, s2, s3⟩
              go_simp
              with_reducible rfl
            rotate_left
            · simp only [Act.put, List.setIfInBounds_toArray, List.set_cons_zero, List.set_cons_succ, i64_w, i32_w]
              rfl
            refine take_ (i := 42) (N := some 69) (v := ?_) (a' := ?_) #[true, true, true, true, true, true, true, true, true, true, true, true, true, true, true, true, true, true, true, true, true, true, true, true, true, true, true, true, true, true, true, true, true, true, true, true, true, true, false, true, false, false, true, true, true, false, false, false, false, false, false, false, false, false, false, false, false, false, false, false] rfl rfl (take_ofW HT_.out HW_.out (by kernel_rfl)) (fun _ _ _ h => h) (Or.inl ⟨by rfl, ?_⟩) hHeld ?_ ?_
            rotate_left
            · rintro w' ⟨s0, s1, s2, s3⟩
              go_simp
              with_reducible rfl
            rotate_left
            · simp only [Act.put, List.setIfInBounds_toArray, List.set_cons_zero, List.set_cons_succ, i64_w, i32_w]
              rfl
            refine one_ (i := 38) (N := some 65) #[true, true, true, true, true, true, true, true, true, true, true, true, true, true, true, true, true, true, true, true, true, true, true, true, true, true, true, true, true, true, true, true, true, true, true, true, true, true, true, true, false, false, true, true, true, false, false, false, false, false, false, false, false, false, false, false, false, false, false, false] rfl rfl (one_of HT_.out (by kernel_rfl)) (by decide) (fun K hK => ?_)
            refine goes_ Try.func28 (by kernel_rfl) rfl #[.agg #[.slice Ao48 t663.length co48], .int .i64 ((l0.length : Int) % 4)] (by rfl) rfl rfl (by (try simp only [List.map_toArray, List.map_cons, List.map_nil]); first | done | rfl | (simp only [List.length_drop, List.length_take]; rfl)) ?_
            with_reducible refine (times_Pow.calls k (fun k_ => some k_ = (.slice Ao48 t663.length co48 : Value).ownBlock) _ _ t663 ((l0.length : Int) % 4) t713 _ ?side1 A27.out).mono ?_
            (case side1 => exact Kd.R_V (Kd.R_tight rfl (Kd.R_types (Kd.R_types (Kd.R_types (Kd.R_types (HO665.out) BK678.out (by decide)) BK679.out (by decide)) BK680.out (by decide)) BK684.out (by decide))))
            rintro e w86 ⟨v714, rfl, ho0, hb⟩
            refine ⟨_, rfl, ?_⟩
            have n0_ := Aside0.mk (Kd.V_elder' (by (with_reducible repeat (first | apply Kd.V_alloc | apply Kd.V_drewN | apply Kd.V_drew)); exact HO662.out) (Kd.R_base ho0) hb)
            have n1_ := Aside0.mk (Kd.R_elder' (by (with_reducible repeat (first | apply Kd.R_alloc | apply Kd.R_drewN | apply Kd.R_drew)); exact HO665.out) (Kd.R_base ho0) hb)
            have n2_ := Aside0.mk (Kd.V_elder' (by (with_reducible repeat (first | apply Kd.V_alloc | apply Kd.V_drewN | apply Kd.V_drew)); exact HO668.out) (Kd.R_base ho0) hb)
            have n3_ := Aside0.mk (Kd.R_elder' (by (with_reducible repeat (first | apply Kd.R_alloc | apply Kd.R_drewN | apply Kd.R_drew)); exact HO671.out) (Kd.R_base ho0) hb)
            have n4_ := Aside0.mk (Kd.V_elder' (by (with_reducible repeat (first | apply Kd.V_alloc | apply Kd.V_drewN | apply Kd.V_drew)); exact HO674.out) (Kd.R_base ho0) hb)
            have n5_ := Aside0.mk (Kd.R_elder' (by (with_reducible repeat (first | apply Kd.R_alloc | apply Kd.R_drewN | apply Kd.R_drew)); exact HO677.out) (Kd.R_base ho0) hb)
            have n6_ := Aside0.mk (Kd.R_elder' (by (with_reducible repeat (first | apply Kd.R_alloc | apply Kd.R_drewN | apply Kd.R_drew)); exact HO683.out) (Kd.R_base ho0) hb)
            have n7_ := Aside0.mk (Kd.R_elder' (by (with_reducible repeat (first | apply Kd.R_alloc | apply Kd.R_drewN | apply Kd.R_drew)); exact HO688.out) (Kd.R_base ho0) hb)
            have n8_ := Aside0.mk (Kd.R_elder' (by (with_reducible repeat (first | apply Kd.R_alloc | apply Kd.R_drewN | apply Kd.R_drew)); exact HO692.out) (Kd.R_base ho0) hb)
            have n9_ := Aside0.mk (Kd.R_elder' (by (with_reducible repeat (first | apply Kd.R_alloc | apply Kd.R_drewN | apply Kd.R_drew)); exact HO695.out) (Kd.R_base ho0) hb)
            have n10_ := Aside0.mk (Kd.R_elder' (by (with_reducible repeat (first | apply Kd.R_alloc | apply Kd.R_drewN | apply Kd.R_drew)); exact HO698.out) (Kd.R_base ho0) hb)
            have n11_ := Aside0.mk (Kd.R_elder' (by (with_reducible repeat (first | apply Kd.R_alloc | apply Kd.R_drewN | apply Kd.R_drew)); exact HO702.out) (Kd.R_base ho0) hb)
            have n12_ := Aside0.mk (Kd.R_elder' (by (with_reducible repeat (first | apply Kd.R_alloc | apply Kd.R_drewN | apply Kd.R_drew)); exact HO705.out) (Kd.R_base ho0) hb)
            have n13_ := Aside0.mk (Kd.R_elder' (by (with_reducible repeat (first | apply Kd.R_alloc | apply Kd.R_drewN | apply Kd.R_drew)); exact HO708.out) (Kd.R_base ho0) hb)
            have n14_ := Aside0.mk (Kd.R_elder' (by (with_reducible repeat (first | apply Kd.R_alloc | apply Kd.R_drewN | apply Kd.R_drew)); exact HO711.out) (Kd.R_base ho0) hb)
            have n15_ := Aside0.mk (Kd.R_lower (Kd.R_new' (Kd.R_new' (Kd.R_new' (Kd.R_new' (Kd.R_new' (Kd.R_new' (Kd.R_new' (Kd.R_new' (Kd.R_new' (Kd.R_new' (Kd.R_new' (Kd.R_new' (Kd.R_mono (ok' := fun k_ => True) ho0 (fun _ hk_ => trivial)) (Kd.R_lt (by (with_reducible repeat (first | apply Kd.R_alloc | apply Kd.R_drewN | apply Kd.R_drew)); exact HO665.out))) (Kd.R_lt (by (with_reducible repeat (first | apply Kd.R_alloc | apply Kd.R_drewN | apply Kd.R_drew)); exact HO671.out))) (Kd.R_lt (by (with_reducible repeat (first | apply Kd.R_alloc | apply Kd.R_drewN | apply Kd.R_drew)); exact HO677.out))) (Kd.R_lt (by (with_reducible repeat (first | apply Kd.R_alloc | apply Kd.R_drewN | apply Kd.R_drew)); exact HO683.out))) (Kd.R_lt (by (with_reducible repeat (first | apply Kd.R_alloc | apply Kd.R_drewN | apply Kd.R_drew)); exact HO688.out))) (Kd.R_lt (by (with_reducible repeat (first | apply Kd.R_alloc | apply Kd.R_drewN | apply Kd.R_drew)); exact HO692.out))) (Kd.R_lt (by (with_reducible repeat (first | apply Kd.R_alloc | apply Kd.R_drewN | apply Kd.R_drew)); exact HO695.out))) (Kd.R_lt (by (with_reducible repeat (first | apply Kd.R_alloc | apply Kd.R_drewN | apply Kd.R_drew)); exact HO698.out))) (Kd.R_lt (by (with_reducible repeat (first | apply Kd.R_alloc | apply Kd.R_drewN | apply Kd.R_drew)); exact HO702.out))) (Kd.R_lt (by (with_reducible repeat (first | apply Kd.R_alloc | apply Kd.R_drewN | apply Kd.R_drew)); exact HO705.out))) (Kd.R_lt (by (with_reducible repeat (first | apply Kd.R_alloc | apply Kd.R_drewN | apply Kd.R_drew)); exact HO708.out))) (Kd.R_lt (by (with_reducible repeat (first | apply Kd.R_alloc | apply Kd.R_drewN | apply Kd.R_drew)); exact HO711.out))) (below_size (by repeat (first | (with_reducible first | exact HB.out | apply below_alloc | apply pw_below_drewN | apply below_drew1 | refine below_set ?_ GE678.out | refine below_set ?_ GE679.out | refine below_set ?_ GE680.out | refine below_set ?_ GE684.out) | exact HB.out))))
            have n16_ := Aside0.mk (blk_below (g := gb678) (o := .cells #[.slice Ao48 t663.length co48] 25 (0, 0)) (by (with_reducible repeat (first | refine blk_drewN ?_ _ | refine blk_drew ?_ | refine blk_alloc ?_ _)); exact BK678.out) hb)
            have n17_ := Aside0.mk (blk_below (g := gb679) (o := .cells #[.slice Ao52 t669.length co52] 25 (0, 0)) (by (with_reducible repeat (first | refine blk_drewN ?_ _ | refine blk_drew ?_ | refine blk_alloc ?_ _)); exact BK679.out) hb)
            have n18_ := Aside0.mk (blk_below (g := gb680) (o := .cells #[.slice Ao55 t675.length co55] 25 (0, 0)) (by (with_reducible repeat (first | refine blk_drewN ?_ _ | refine blk_drew ?_ | refine blk_alloc ?_ _)); exact BK680.out) hb)
            have n19_ := Aside0.mk (blk_below (g := gb684) (o := .cells #[.slice Ao59 t681.length co59] 25 (0, 0)) (by (with_reducible repeat (first | refine blk_drewN ?_ _ | refine blk_drew ?_ | refine blk_alloc ?_ _)); exact BK684.out) hb)
            have n20_ := Aside0.mk (below_step (by repeat (first | (with_reducible first | exact HB.out | apply below_alloc | apply pw_below_drewN | apply below_drew1 | refine below_set ?_ GE678.out | refine below_set ?_ GE679.out | refine below_set ?_ GE680.out | refine below_set ?_ GE684.out) | exact HB.out)) hb)
            clear HO662
            clear HO665
            clear HO668
            clear HO671
            clear HO674
            clear HO677
            clear HO683
            clear HO688
            clear HO692
            clear HO695
            clear HO698
            clear HO702
            clear HO705
            clear HO708
            clear HO711
            clear BK678
            clear BK679
            clear BK680
            clear BK684
            clear HB
            have HO662 := n0_
            have HO665 := n1_
            have HO668 := n2_
            have HO671 := n3_
            have HO674 := n4_
            have HO677 := n5_
            have HO683 := n6_
            have HO688 := n7_
            have HO692 := n8_
            have HO695 := n9_
            have HO698 := n10_
            have HO702 := n11_
            have HO705 := n12_
            have HO708 := n13_
            have HO711 := n14_
            have HO715 := n15_
            have BK678 := n16_
            have BK679 := n17_
            have BK680 := n18_
            have BK684 := n19_
            have HB := n20_
            clear n0_ n1_ n2_ n3_ n4_ n5_ n6_ n7_ n8_ n9_ n10_ n11_ n12_ n13_ n14_ n15_ n16_ n17_ n18_ n19_ n20_
            (try clear hb)
            (try clear hb2)
            (try clear hk)
            (try clear hi)
            (try clear ho0)
            refine hK.out _ _ ⟨(blk_cell BK684.out 0).trans rfl, (blk_cell BK679.out 0).trans rfl, (blk_cell BK678.out 0).trans rfl, (blk_cell BK680.out 0).trans rfl⟩ (fun hHeld => ?_)
            clear hK K
            refine norm_ (a' := ?_) ?_ ?_
            rotate_left
            · show Act.put _ (some 65) _ = _
              simp only [Act.put, List.setIfInBounds_toArray, List.set_cons_zero, List.set_cons_succ, i64_w, i32_w]
              rfl
            refine one_ (i := 40) (N := some 67) #[true, true, true, true, true, true, true, true, true, true, true, true, true, true, true, true, true, true, true, true, true, true, true, true, true, true, true, true, true, true, true, true, true, true, true, true, true, true, true, true, true, false, true, true, true, false, false, false, false, false, false, false, false, false, false, false, false, false, false, false] rfl rfl (one_of HT_.out (by kernel_rfl)) (by decide) (fun K hK => ?_)
            refine goes_ Try.func28 (by kernel_rfl) rfl #[.agg #[.slice Ao48 t663.length co48], .int .i64 2] (by rfl) rfl rfl (by (try simp only [List.map_toArray, List.map_cons, List.map_nil]); first | done | rfl | (simp only [List.length_drop, List.length_take]; rfl)) ?_
            with_reducible refine (times_Pow.calls k (fun k_ => some k_ = (.slice Ao48 t663.length co48 : Value).ownBlock) _ _ t663 2 t716 _ ?side1 A28.out).mono ?_
            (case side1 => exact Kd.R_V (Kd.R_tight rfl (Kd.R_types (Kd.R_types (Kd.R_types (Kd.R_types (HO665.out) BK678.out (by decide)) BK679.out (by decide)) BK680.out (by decide)) BK684.out (by decide))))
            rintro e w87 ⟨v717, rfl, ho0, hb⟩
            refine ⟨_, rfl, ?_⟩
            have n0_ := Aside0.mk (Kd.V_elder' (by (with_reducible repeat (first | apply Kd.V_alloc | apply Kd.V_drewN | apply Kd.V_drew)); exact HO662.out) (Kd.R_base ho0) hb)
            have n1_ := Aside0.mk (Kd.R_elder' (by (with_reducible repeat (first | apply Kd.R_alloc | apply Kd.R_drewN | apply Kd.R_drew)); exact HO665.out) (Kd.R_base ho0) hb)
            have n2_ := Aside0.mk (Kd.V_elder' (by (with_reducible repeat (first | apply Kd.V_alloc | apply Kd.V_drewN | apply Kd.V_drew)); exact HO668.out) (Kd.R_base ho0) hb)
            have n3_ := Aside0.mk (Kd.R_elder' (by (with_reducible repeat (first | apply Kd.R_alloc | apply Kd.R_drewN | apply Kd.R_drew)); exact HO671.out) (Kd.R_base ho0) hb)
            have n4_ := Aside0.mk (Kd.V_elder' (by (with_reducible repeat (first | apply Kd.V_alloc | apply Kd.V_drewN | apply Kd.V_drew)); exact HO674.out) (Kd.R_base ho0) hb)
            have n5_ := Aside0.mk (Kd.R_elder' (by (with_reducible repeat (first | apply Kd.R_alloc | apply Kd.R_drewN | apply Kd.R_drew)); exact HO677.out) (Kd.R_base ho0) hb)
            have n6_ := Aside0.mk (Kd.R_elder' (by (with_reducible repeat (first | apply Kd.R_alloc | apply Kd.R_drewN | apply Kd.R_drew)); exact HO683.out) (Kd.R_base ho0) hb)
            have n7_ := Aside0.mk (Kd.R_elder' (by (with_reducible repeat (first | apply Kd.R_alloc | apply Kd.R_drewN | apply Kd.R_drew)); exact HO688.out) (Kd.R_base ho0) hb)
            have n8_ := Aside0.mk (Kd.R_elder' (by (with_reducible repeat (first | apply Kd.R_alloc | apply Kd.R_drewN | apply Kd.R_drew)); exact HO692.out) (Kd.R_base ho0) hb)
            have n9_ := Aside0.mk (Kd.R_elder' (by (with_reducible repeat (first | apply Kd.R_alloc | apply Kd.R_drewN | apply Kd.R_drew)); exact HO695.out) (Kd.R_base ho0) hb)
            have n10_ := Aside0.mk (Kd.R_elder' (by (with_reducible repeat (first | apply Kd.R_alloc | apply Kd.R_drewN | apply Kd.R_drew)); exact HO698.out) (Kd.R_base ho0) hb)
            have n11_ := Aside0.mk (Kd.R_elder' (by (with_reducible repeat (first | apply Kd.R_alloc | apply Kd.R_drewN | apply Kd.R_drew)); exact HO702.out) (Kd.R_base ho0) hb)
            have n12_ := Aside0.mk (Kd.R_elder' (by (with_reducible repeat (first | apply Kd.R_alloc | apply Kd.R_drewN | apply Kd.R_drew)); exact HO705.out) (Kd.R_base ho0) hb)
            have n13_ := Aside0.mk (Kd.R_elder' (by (with_reducible repeat (first | apply Kd.R_alloc | apply Kd.R_drewN | apply Kd.R_drew)); exact HO708.out) (Kd.R_base ho0) hb)
            have n14_ := Aside0.mk (Kd.R_elder' (by (with_reducible repeat (first | apply Kd.R_alloc | apply Kd.R_drewN | apply Kd.R_drew)); exact HO711.out) (Kd.R_base ho0) hb)
            have n15_ := Aside0.mk (Kd.R_elder' (by (with_reducible repeat (first | apply Kd.R_alloc | apply Kd.R_drewN | apply Kd.R_drew)); exact HO715.out) (Kd.R_base ho0) hb)
            have n16_ := Aside0.mk (Kd.R_lower (Kd.R_new' (Kd.R_new' (Kd.R_new' (Kd.R_new' (Kd.R_new' (Kd.R_new' (Kd.R_new' (Kd.R_new' (Kd.R_new' (Kd.R_new' (Kd.R_new' (Kd.R_new' (Kd.R_new' (Kd.R_mono (ok' := fun k_ => True) ho0 (fun _ hk_ => trivial)) (Kd.R_lt (by (with_reducible repeat (first | apply Kd.R_alloc | apply Kd.R_drewN | apply Kd.R_drew)); exact HO665.out))) (Kd.R_lt (by (with_reducible repeat (first | apply Kd.R_alloc | apply Kd.R_drewN | apply Kd.R_drew)); exact HO671.out))) (Kd.R_lt (by (with_reducible repeat (first | apply Kd.R_alloc | apply Kd.R_drewN | apply Kd.R_drew)); exact HO677.out))) (Kd.R_lt (by (with_reducible repeat (first | apply Kd.R_alloc | apply Kd.R_drewN | apply Kd.R_drew)); exact HO683.out))) (Kd.R_lt (by (with_reducible repeat (first | apply Kd.R_alloc | apply Kd.R_drewN | apply Kd.R_drew)); exact HO688.out))) (Kd.R_lt (by (with_reducible repeat (first | apply Kd.R_alloc | apply Kd.R_drewN | apply Kd.R_drew)); exact HO692.out))) (Kd.R_lt (by (with_reducible repeat (first | apply Kd.R_alloc | apply Kd.R_drewN | apply Kd.R_drew)); exact HO695.out))) (Kd.R_lt (by (with_reducible repeat (first | apply Kd.R_alloc | apply Kd.R_drewN | apply Kd.R_drew)); exact HO698.out))) (Kd.R_lt (by (with_reducible repeat (first | apply Kd.R_alloc | apply Kd.R_drewN | apply Kd.R_drew)); exact HO702.out))) (Kd.R_lt (by (with_reducible repeat (first | apply Kd.R_alloc | apply Kd.R_drewN | apply Kd.R_drew)); exact HO705.out))) (Kd.R_lt (by (with_reducible repeat (first | apply Kd.R_alloc | apply Kd.R_drewN | apply Kd.R_drew)); exact HO708.out))) (Kd.R_lt (by (with_reducible repeat (first | apply Kd.R_alloc | apply Kd.R_drewN | apply Kd.R_drew)); exact HO711.out))) (Kd.R_lt (by (with_reducible repeat (first | apply Kd.R_alloc | apply Kd.R_drewN | apply Kd.R_drew)); exact HO715.out))) (below_size (by repeat (first | (with_reducible first | exact HB.out | apply below_alloc | apply pw_below_drewN | apply below_drew1 | refine below_set ?_ GE678.out | refine below_set ?_ GE679.out | refine below_set ?_ GE680.out | refine below_set ?_ GE684.out) | exact HB.out))))
            have n17_ := Aside0.mk (blk_below (g := gb678) (o := .cells #[.slice Ao48 t663.length co48] 25 (0, 0)) (by (with_reducible repeat (first | refine blk_drewN ?_ _ | refine blk_drew ?_ | refine blk_alloc ?_ _)); exact BK678.out) hb)
            have n18_ := Aside0.mk (blk_below (g := gb679) (o := .cells #[.slice Ao52 t669.length co52] 25 (0, 0)) (by (with_reducible repeat (first | refine blk_drewN ?_ _ | refine blk_drew ?_ | refine blk_alloc ?_ _)); exact BK679.out) hb)
            have n19_ := Aside0.mk (blk_below (g := gb680) (o := .cells #[.slice Ao55 t675.length co55] 25 (0, 0)) (by (with_reducible repeat (first | refine blk_drewN ?_ _ | refine blk_drew ?_ | refine blk_alloc ?_ _)); exact BK680.out) hb)
            have n20_ := Aside0.mk (blk_below (g := gb684) (o := .cells #[.slice Ao59 t681.length co59] 25 (0, 0)) (by (with_reducible repeat (first | refine blk_drewN ?_ _ | refine blk_drew ?_ | refine blk_alloc ?_ _)); exact BK684.out) hb)
            have n21_ := Aside0.mk (below_step (by repeat (first | (with_reducible first | exact HB.out | apply below_alloc | apply pw_below_drewN | apply below_drew1 | refine below_set ?_ GE678.out | refine below_set ?_ GE679.out | refine below_set ?_ GE680.out | refine below_set ?_ GE684.out) | exact HB.out)) hb)
            clear HO662
            clear HO665
            clear HO668
            clear HO671
            clear HO674
            clear HO677
            clear HO683
            clear HO688
            clear HO692
            clear HO695
            clear HO698
            clear HO702
            clear HO705
            clear HO708
            clear HO711
            clear HO715
            clear BK678
            clear BK679
            clear BK680
            clear BK684
            clear HB
            have HO662 := n0_
            have HO665 := n1_
            have HO668 := n2_
            have HO671 := n3_
            have HO674 := n4_
            have HO677 := n5_
            have HO683 := n6_
            have HO688 := n7_
            have HO692 := n8_
            have HO695 := n9_
            have HO698 := n10_
            have HO702 := n11_
            have HO705 := n12_
            have HO708 := n13_
            have HO711 := n14_
            have HO715 := n15_
            have HO718 := n16_
            have BK678 := n17_
            have BK679 := n18_
            have BK680 := n19_
            have BK684 := n20_
            have HB := n21_
            clear n0_ n1_ n2_ n3_ n4_ n5_ n6_ n7_ n8_ n9_ n10_ n11_ n12_ n13_ n14_ n15_ n16_ n17_ n18_ n19_ n20_ n21_
            (try clear hb)
            (try clear hb2)
            (try clear hk)
            (try clear hi)
            (try clear ho0)
            obtain ⟨Ao88, co88, eo88⟩ := Kd.R_slice HO715.out
            (first | subst eo88 | (injection eo88 with f1_ f2_ f3_; have f4_ := f1_.symm; have f5_ := f3_.symm; clear f1_ f2_ f3_; subst f4_; subst f5_))
            obtain ⟨Ao89, co89, eo89⟩ := Kd.R_slice HO718.out
            (first | subst eo89 | (injection eo89 with f1_ f2_ f3_; have f4_ := f1_.symm; have f5_ := f3_.symm; clear f1_ f2_ f3_; subst f4_; subst f5_))
            refine hK.out _ _ ⟨(blk_cell BK684.out 0).trans rfl, (blk_cell BK679.out 0).trans rfl, (blk_cell BK678.out 0).trans rfl, (blk_cell BK680.out 0).trans rfl⟩ (fun hHeld => ?_)
            clear hK K
            refine norm_ (a' := ?_) ?_ ?_
            rotate_left
            · show Act.put _ (some 67) _ = _
              simp only [Act.put, List.setIfInBounds_toArray, List.set_cons_zero, List.set_cons_succ, i64_w, i32_w]
              rfl
            refine one_ (i := 41) (N := some 68) #[true, true, true, true, true, true, true, true, true, true, true, true, true, true, true, true, true, true, true, true, true, true, true, true, true, true, true, true, true, true, true, true, true, true, true, true, true, true, true, true, true, true, true, true, true, false, false, false, false, false, false, false, false, false, false, false, false, false, false, false] rfl rfl (one_of HT_.out (by kernel_rfl)) (by decide) (fun K hK => ?_)
            refine goes_ Try.func24 (by kernel_rfl) rfl #[.agg #[.slice Ao88 t713.length co88], .agg #[.slice Ao89 t716.length co89]] (by rfl) rfl rfl (by (try simp only [List.map_toArray, List.map_cons, List.map_nil]); first | done | rfl | (simp only [List.length_drop, List.length_take]; rfl)) ?_
            with_reducible refine (times_Mul.calls k _ _ t713 _ _ t716 t719 _ ?side1 ?side2 ?side3 ?side4 A29.out).mono ?_
            (case side1 => repeat (first | exact (Kd.R_reads' HO715.out).2.2 | (with_reducible refine Kd.C_alloc ?_ _) | (with_reducible refine Kd.C_drewN ?_ _) | (with_reducible refine Kd.C_drew ?_)))
            (case side2 => exact (Kd.R_reads' HO715.out).2.1)
            (case side3 => repeat (first | exact (Kd.R_reads' HO718.out).2.2 | (with_reducible refine Kd.C_alloc ?_ _) | (with_reducible refine Kd.C_drewN ?_ _) | (with_reducible refine Kd.C_drew ?_)))
            (case side4 => exact (Kd.R_reads' HO718.out).2.1)
            rintro e w90 ⟨v720, rfl, ho0, hb⟩
            refine ⟨_, rfl, ?_⟩
            have n0_ := Aside0.mk (Kd.V_elder' (by (with_reducible repeat (first | apply Kd.V_alloc | apply Kd.V_drewN | apply Kd.V_drew)); exact HO662.out) (Kd.R_base ho0) hb)
            have n1_ := Aside0.mk (Kd.R_elder' (by (with_reducible repeat (first | apply Kd.R_alloc | apply Kd.R_drewN | apply Kd.R_drew)); exact HO665.out) (Kd.R_base ho0) hb)
            have n2_ := Aside0.mk (Kd.V_elder' (by (with_reducible repeat (first | apply Kd.V_alloc | apply Kd.V_drewN | apply Kd.V_drew)); exact HO668.out) (Kd.R_base ho0) hb)
            have n3_ := Aside0.mk (Kd.R_elder' (by (with_reducible repeat (first | apply Kd.R_alloc | apply Kd.R_drewN | apply Kd.R_drew)); exact HO671.out) (Kd.R_base ho0) hb)
            have n4_ := Aside0.mk (Kd.V_elder' (by (with_reducible repeat (first | apply Kd.V_alloc | apply Kd.V_drewN | apply Kd.V_drew)); exact HO674.out) (Kd.R_base ho0) hb)
            have n5_ := Aside0.mk (Kd.R_elder' (by (with_reducible repeat (first | apply Kd.R_alloc | apply Kd.R_drewN | apply Kd.R_drew)); exact HO677.out) (Kd.R_base ho0) hb)
            have n6_ := Aside0.mk (Kd.R_elder' (by (with_reducible repeat (first | apply Kd.R_alloc | apply Kd.R_drewN | apply Kd.R_drew)); exact HO683.out) (Kd.R_base ho0) hb)
            have n7_ := Aside0.mk (Kd.R_elder' (by (with_reducible repeat (first | apply Kd.R_alloc | apply Kd.R_drewN | apply Kd.R_drew)); exact HO688.out) (Kd.R_base ho0) hb)
            have n8_ := Aside0.mk (Kd.R_elder' (by (with_reducible repeat (first | apply Kd.R_alloc | apply Kd.R_drewN | apply Kd.R_drew)); exact HO692.out) (Kd.R_base ho0) hb)
            have n9_ := Aside0.mk (Kd.R_elder' (by (with_reducible repeat (first | apply Kd.R_alloc | apply Kd.R_drewN | apply Kd.R_drew)); exact HO695.out) (Kd.R_base ho0) hb)
            have n10_ := Aside0.mk (Kd.R_elder' (by (with_reducible repeat (first | apply Kd.R_alloc | apply Kd.R_drewN | apply Kd.R_drew)); exact HO698.out) (Kd.R_base ho0) hb)
            have n11_ := Aside0.mk (Kd.R_elder' (by (with_reducible repeat (first | apply Kd.R_alloc | apply Kd.R_drewN | apply Kd.R_drew)); exact HO702.out) (Kd.R_base ho0) hb)
            have n12_ := Aside0.mk (Kd.R_elder' (by (with_reducible repeat (first | apply Kd.R_alloc | apply Kd.R_drewN | apply Kd.R_drew)); exact HO705.out) (Kd.R_base ho0) hb)
            have n13_ := Aside0.mk (Kd.R_elder' (by (with_reducible repeat (first | apply Kd.R_alloc | apply Kd.R_drewN | apply Kd.R_drew)); exact HO708.out) (Kd.R_base ho0) hb)
            have n14_ := Aside0.mk (Kd.R_elder' (by (with_reducible repeat (first | apply Kd.R_alloc | apply Kd.R_drewN | apply Kd.R_drew)); exact HO711.out) (Kd.R_base ho0) hb)
            have n15_ := Aside0.mk (Kd.R_elder' (by (with_reducible repeat (first | apply Kd.R_alloc | apply Kd.R_drewN | apply Kd.R_drew)); exact HO715.out) (Kd.R_base ho0) hb)
            have n16_ := Aside0.mk (Kd.R_elder' (by (with_reducible repeat (first | apply Kd.R_alloc | apply Kd.R_drewN | apply Kd.R_drew)); exact HO718.out) (Kd.R_base ho0) hb)
            have n17_ := Aside0.mk (Kd.R_lower (Kd.R_new' (Kd.R_new' (Kd.R_new' (Kd.R_new' (Kd.R_new' (Kd.R_new' (Kd.R_new' (Kd.R_new' (Kd.R_new' (Kd.R_new' (Kd.R_new' (Kd.R_new' (Kd.R_new' (Kd.R_new' ho0 (Kd.R_lt (by (with_reducible repeat (first | apply Kd.R_alloc | apply Kd.R_drewN | apply Kd.R_drew)); exact HO665.out))) (Kd.R_lt (by (with_reducible repeat (first | apply Kd.R_alloc | apply Kd.R_drewN | apply Kd.R_drew)); exact HO671.out))) (Kd.R_lt (by (with_reducible repeat (first | apply Kd.R_alloc | apply Kd.R_drewN | apply Kd.R_drew)); exact HO677.out))) (Kd.R_lt (by (with_reducible repeat (first | apply Kd.R_alloc | apply Kd.R_drewN | apply Kd.R_drew)); exact HO683.out))) (Kd.R_lt (by (with_reducible repeat (first | apply Kd.R_alloc | apply Kd.R_drewN | apply Kd.R_drew)); exact HO688.out))) (Kd.R_lt (by (with_reducible repeat (first | apply Kd.R_alloc | apply Kd.R_drewN | apply Kd.R_drew)); exact HO692.out))) (Kd.R_lt (by (with_reducible repeat (first | apply Kd.R_alloc | apply Kd.R_drewN | apply Kd.R_drew)); exact HO695.out))) (Kd.R_lt (by (with_reducible repeat (first | apply Kd.R_alloc | apply Kd.R_drewN | apply Kd.R_drew)); exact HO698.out))) (Kd.R_lt (by (with_reducible repeat (first | apply Kd.R_alloc | apply Kd.R_drewN | apply Kd.R_drew)); exact HO702.out))) (Kd.R_lt (by (with_reducible repeat (first | apply Kd.R_alloc | apply Kd.R_drewN | apply Kd.R_drew)); exact HO705.out))) (Kd.R_lt (by (with_reducible repeat (first | apply Kd.R_alloc | apply Kd.R_drewN | apply Kd.R_drew)); exact HO708.out))) (Kd.R_lt (by (with_reducible repeat (first | apply Kd.R_alloc | apply Kd.R_drewN | apply Kd.R_drew)); exact HO711.out))) (Kd.R_lt (by (with_reducible repeat (first | apply Kd.R_alloc | apply Kd.R_drewN | apply Kd.R_drew)); exact HO715.out))) (Kd.R_lt (by (with_reducible repeat (first | apply Kd.R_alloc | apply Kd.R_drewN | apply Kd.R_drew)); exact HO718.out))) (below_size (by repeat (first | (with_reducible first | exact HB.out | apply below_alloc | apply pw_below_drewN | apply below_drew1 | refine below_set ?_ GE678.out | refine below_set ?_ GE679.out | refine below_set ?_ GE680.out | refine below_set ?_ GE684.out) | exact HB.out))))
            have n18_ := Aside0.mk (blk_below (g := gb678) (o := .cells #[.slice Ao48 t663.length co48] 25 (0, 0)) (by (with_reducible repeat (first | refine blk_drewN ?_ _ | refine blk_drew ?_ | refine blk_alloc ?_ _)); exact BK678.out) hb)
            have n19_ := Aside0.mk (blk_below (g := gb679) (o := .cells #[.slice Ao52 t669.length co52] 25 (0, 0)) (by (with_reducible repeat (first | refine blk_drewN ?_ _ | refine blk_drew ?_ | refine blk_alloc ?_ _)); exact BK679.out) hb)
            have n20_ := Aside0.mk (blk_below (g := gb680) (o := .cells #[.slice Ao55 t675.length co55] 25 (0, 0)) (by (with_reducible repeat (first | refine blk_drewN ?_ _ | refine blk_drew ?_ | refine blk_alloc ?_ _)); exact BK680.out) hb)
            have n21_ := Aside0.mk (blk_below (g := gb684) (o := .cells #[.slice Ao59 t681.length co59] 25 (0, 0)) (by (with_reducible repeat (first | refine blk_drewN ?_ _ | refine blk_drew ?_ | refine blk_alloc ?_ _)); exact BK684.out) hb)
            have n22_ := Aside0.mk (below_step (by repeat (first | (with_reducible first | exact HB.out | apply below_alloc | apply pw_below_drewN | apply below_drew1 | refine below_set ?_ GE678.out | refine below_set ?_ GE679.out | refine below_set ?_ GE680.out | refine below_set ?_ GE684.out) | exact HB.out)) hb)
            clear HO662
            clear HO665
            clear HO668
            clear HO671
            clear HO674
            clear HO677
            clear HO683
            clear HO688
            clear HO692
            clear HO695
            clear HO698
            clear HO702
            clear HO705
            clear HO708
            clear HO711
            clear HO715
            clear HO718
            clear BK678
            clear BK679
            clear BK680
            clear BK684
            clear HB
            have HO662 := n0_
            have HO665 := n1_
            have HO668 := n2_
            have HO671 := n3_
            have HO674 := n4_
            have HO677 := n5_
            have HO683 := n6_
            have HO688 := n7_
            have HO692 := n8_
            have HO695 := n9_
            have HO698 := n10_
            have HO702 := n11_
            have HO705 := n12_
            have HO708 := n13_
            have HO711 := n14_
            have HO715 := n15_
            have HO718 := n16_
            have HO721 := n17_
            have BK678 := n18_
            have BK679 := n19_
            have BK680 := n20_
            have BK684 := n21_
            have HB := n22_
            clear n0_ n1_ n2_ n3_ n4_ n5_ n6_ n7_ n8_ n9_ n10_ n11_ n12_ n13_ n14_ n15_ n16_ n17_ n18_ n19_ n20_ n21_ n22_
            (try clear hb)
            (try clear hb2)
            (try clear hk)
            (try clear hi)
            (try clear ho0)
            refine hK.out _ _ ⟨(blk_cell BK684.out 0).trans rfl, (blk_cell BK679.out 0).trans rfl, (blk_cell BK678.out 0).trans rfl, (blk_cell BK680.out 0).trans rfl⟩ (fun hHeld => ?_)
            clear hK K
            refine norm_ (a' := ?_) ?_ ?_
            rotate_left
            · show Act.put _ (some 68) _ = _
              simp only [Act.put, List.setIfInBounds_toArray, List.set_cons_zero, List.set_cons_succ, i64_w, i32_w]
              rfl
            refine one_ (i := 45) (N := some 72) #[true, true, true, true, true, true, true, true, true, true, true, true, true, true, true, true, true, true, true, true, true, true, true, true, true, true, true, true, true, true, true, true, true, true, true, true, true, true, true, true, true, true, true, true, true, true, false, false, false, false, false, false, false, false, false, false, false, false, false, false] rfl rfl (one_of HT_.out (by kernel_rfl)) (by decide) (fun K hK => ?_)
            refine goes_ Try.func28 (by kernel_rfl) rfl #[.agg #[.slice Ao48 t663.length co48], .int .i64 (((l0.length : Int) % 4) + 2)] (by rfl) rfl rfl (by (try simp only [List.map_toArray, List.map_cons, List.map_nil]); first | done | rfl | (simp only [List.length_drop, List.length_take]; rfl) | exact congrArg (fun z => (#[.agg #[.slice Ao48 t663.length co48], .int .i64 z] : Array Value)) (show wrap64 (((l0.length : Int) % 4) + 2) = (((l0.length : Int) % 4) + 2) by unfold wrap64; omega)) ?_
            with_reducible refine (times_Pow.calls k (fun k_ => some k_ = (.slice Ao48 t663.length co48 : Value).ownBlock) _ _ t663 (((l0.length : Int) % 4) + 2) t722 _ ?side1 A30.out).mono ?_
            (case side1 => exact Kd.R_V (Kd.R_tight rfl (Kd.R_types (Kd.R_types (Kd.R_types (Kd.R_types (HO665.out) BK678.out (by decide)) BK679.out (by decide)) BK680.out (by decide)) BK684.out (by decide))))
            rintro e w91 ⟨v723, rfl, ho0, hb⟩
            refine ⟨_, rfl, ?_⟩
            have n0_ := Aside0.mk (Kd.V_elder' (by (with_reducible repeat (first | apply Kd.V_alloc | apply Kd.V_drewN | apply Kd.V_drew)); exact HO662.out) (Kd.R_base ho0) hb)
            have n1_ := Aside0.mk (Kd.R_elder' (by (with_reducible repeat (first | apply Kd.R_alloc | apply Kd.R_drewN | apply Kd.R_drew)); exact HO665.out) (Kd.R_base ho0) hb)
            have n2_ := Aside0.mk (Kd.V_elder' (by (with_reducible repeat (first | apply Kd.V_alloc | apply Kd.V_drewN | apply Kd.V_drew)); exact HO668.out) (Kd.R_base ho0) hb)
            have n3_ := Aside0.mk (Kd.R_elder' (by (with_reducible repeat (first | apply Kd.R_alloc | apply Kd.R_drewN | apply Kd.R_drew)); exact HO671.out) (Kd.R_base ho0) hb)
            have n4_ := Aside0.mk (Kd.V_elder' (by (with_reducible repeat (first | apply Kd.V_alloc | apply Kd.V_drewN | apply Kd.V_drew)); exact HO674.out) (Kd.R_base ho0) hb)
            have n5_ := Aside0.mk (Kd.R_elder' (by (with_reducible repeat (first | apply Kd.R_alloc | apply Kd.R_drewN | apply Kd.R_drew)); exact HO677.out) (Kd.R_base ho0) hb)
            have n6_ := Aside0.mk (Kd.R_elder' (by (with_reducible repeat (first | apply Kd.R_alloc | apply Kd.R_drewN | apply Kd.R_drew)); exact HO683.out) (Kd.R_base ho0) hb)
            have n7_ := Aside0.mk (Kd.R_elder' (by (with_reducible repeat (first | apply Kd.R_alloc | apply Kd.R_drewN | apply Kd.R_drew)); exact HO688.out) (Kd.R_base ho0) hb)
            have n8_ := Aside0.mk (Kd.R_elder' (by (with_reducible repeat (first | apply Kd.R_alloc | apply Kd.R_drewN | apply Kd.R_drew)); exact HO692.out) (Kd.R_base ho0) hb)
            have n9_ := Aside0.mk (Kd.R_elder' (by (with_reducible repeat (first | apply Kd.R_alloc | apply Kd.R_drewN | apply Kd.R_drew)); exact HO695.out) (Kd.R_base ho0) hb)
            have n10_ := Aside0.mk (Kd.R_elder' (by (with_reducible repeat (first | apply Kd.R_alloc | apply Kd.R_drewN | apply Kd.R_drew)); exact HO698.out) (Kd.R_base ho0) hb)
            have n11_ := Aside0.mk (Kd.R_elder' (by (with_reducible repeat (first | apply Kd.R_alloc | apply Kd.R_drewN | apply Kd.R_drew)); exact HO702.out) (Kd.R_base ho0) hb)
            have n12_ := Aside0.mk (Kd.R_elder' (by (with_reducible repeat (first | apply Kd.R_alloc | apply Kd.R_drewN | apply Kd.R_drew)); exact HO705.out) (Kd.R_base ho0) hb)
            have n13_ := Aside0.mk (Kd.R_elder' (by (with_reducible repeat (first | apply Kd.R_alloc | apply Kd.R_drewN | apply Kd.R_drew)); exact HO708.out) (Kd.R_base ho0) hb)
            have n14_ := Aside0.mk (Kd.R_elder' (by (with_reducible repeat (first | apply Kd.R_alloc | apply Kd.R_drewN | apply Kd.R_drew)); exact HO711.out) (Kd.R_base ho0) hb)
            have n15_ := Aside0.mk (Kd.R_elder' (by (with_reducible repeat (first | apply Kd.R_alloc | apply Kd.R_drewN | apply Kd.R_drew)); exact HO715.out) (Kd.R_base ho0) hb)
            have n16_ := Aside0.mk (Kd.R_elder' (by (with_reducible repeat (first | apply Kd.R_alloc | apply Kd.R_drewN | apply Kd.R_drew)); exact HO718.out) (Kd.R_base ho0) hb)
            have n17_ := Aside0.mk (Kd.R_elder' (by (with_reducible repeat (first | apply Kd.R_alloc | apply Kd.R_drewN | apply Kd.R_drew)); exact HO721.out) (Kd.R_base ho0) hb)
            have n18_ := Aside0.mk (Kd.R_lower (Kd.R_new' (Kd.R_new' (Kd.R_new' (Kd.R_new' (Kd.R_new' (Kd.R_new' (Kd.R_new' (Kd.R_new' (Kd.R_new' (Kd.R_new' (Kd.R_new' (Kd.R_new' (Kd.R_new' (Kd.R_new' (Kd.R_new' (Kd.R_mono (ok' := fun k_ => True) ho0 (fun _ hk_ => trivial)) (Kd.R_lt (by (with_reducible repeat (first | apply Kd.R_alloc | apply Kd.R_drewN | apply Kd.R_drew)); exact HO665.out))) (Kd.R_lt (by (with_reducible repeat (first | apply Kd.R_alloc | apply Kd.R_drewN | apply Kd.R_drew)); exact HO671.out))) (Kd.R_lt (by (with_reducible repeat (first | apply Kd.R_alloc | apply Kd.R_drewN | apply Kd.R_drew)); exact HO677.out))) (Kd.R_lt (by (with_reducible repeat (first | apply Kd.R_alloc | apply Kd.R_drewN | apply Kd.R_drew)); exact HO683.out))) (Kd.R_lt (by (with_reducible repeat (first | apply Kd.R_alloc | apply Kd.R_drewN | apply Kd.R_drew)); exact HO688.out))) (Kd.R_lt (by (with_reducible repeat (first | apply Kd.R_alloc | apply Kd.R_drewN | apply Kd.R_drew)); exact HO692.out))) (Kd.R_lt (by (with_reducible repeat (first | apply Kd.R_alloc | apply Kd.R_drewN | apply Kd.R_drew)); exact HO695.out))) (Kd.R_lt (by (with_reducible repeat (first | apply Kd.R_alloc | apply Kd.R_drewN | apply Kd.R_drew)); exact HO698.out))) (Kd.R_lt (by (with_reducible repeat (first | apply Kd.R_alloc | apply Kd.R_drewN | apply Kd.R_drew)); exact HO702.out))) (Kd.R_lt (by (with_reducible repeat (first | apply Kd.R_alloc | apply Kd.R_drewN | apply Kd.R_drew)); exact HO705.out))) (Kd.R_lt (by (with_reducible repeat (first | apply Kd.R_alloc | apply Kd.R_drewN | apply Kd.R_drew)); exact HO708.out))) (Kd.R_lt (by (with_reducible repeat (first | apply Kd.R_alloc | apply Kd.R_drewN | apply Kd.R_drew)); exact HO711.out))) (Kd.R_lt (by (with_reducible repeat (first | apply Kd.R_alloc | apply Kd.R_drewN | apply Kd.R_drew)); exact HO715.out))) (Kd.R_lt (by (with_reducible repeat (first | apply Kd.R_alloc | apply Kd.R_drewN | apply Kd.R_drew)); exact HO718.out))) (Kd.R_lt (by (with_reducible repeat (first | apply Kd.R_alloc | apply Kd.R_drewN | apply Kd.R_drew)); exact HO721.out))) (below_size (by repeat (first | (with_reducible first | exact HB.out | apply below_alloc | apply pw_below_drewN | apply below_drew1 | refine below_set ?_ GE678.out | refine below_set ?_ GE679.out | refine below_set ?_ GE680.out | refine below_set ?_ GE684.out) | exact HB.out))))
            have n19_ := Aside0.mk (blk_below (g := gb678) (o := .cells #[.slice Ao48 t663.length co48] 25 (0, 0)) (by (with_reducible repeat (first | refine blk_drewN ?_ _ | refine blk_drew ?_ | refine blk_alloc ?_ _)); exact BK678.out) hb)
            have n20_ := Aside0.mk (blk_below (g := gb679) (o := .cells #[.slice Ao52 t669.length co52] 25 (0, 0)) (by (with_reducible repeat (first | refine blk_drewN ?_ _ | refine blk_drew ?_ | refine blk_alloc ?_ _)); exact BK679.out) hb)
            have n21_ := Aside0.mk (blk_below (g := gb680) (o := .cells #[.slice Ao55 t675.length co55] 25 (0, 0)) (by (with_reducible repeat (first | refine blk_drewN ?_ _ | refine blk_drew ?_ | refine blk_alloc ?_ _)); exact BK680.out) hb)
            have n22_ := Aside0.mk (blk_below (g := gb684) (o := .cells #[.slice Ao59 t681.length co59] 25 (0, 0)) (by (with_reducible repeat (first | refine blk_drewN ?_ _ | refine blk_drew ?_ | refine blk_alloc ?_ _)); exact BK684.out) hb)
            have n23_ := Aside0.mk (below_step (by repeat (first | (with_reducible first | exact HB.out | apply below_alloc | apply pw_below_drewN | apply below_drew1 | refine below_set ?_ GE678.out | refine below_set ?_ GE679.out | refine below_set ?_ GE680.out | refine below_set ?_ GE684.out) | exact HB.out)) hb)
            clear HO662
            clear HO665
            clear HO668
            clear HO671
            clear HO674
            clear HO677
            clear HO683
            clear HO688
            clear HO692
            clear HO695
            clear HO698
            clear HO702
            clear HO705
            clear HO708
            clear HO711
            clear HO715
            clear HO718
            clear HO721
            clear BK678
            clear BK679
            clear BK680
            clear BK684
            clear HB
            have HO662 := n0_
            have HO665 := n1_
            have HO668 := n2_
            have HO671 := n3_
            have HO674 := n4_
            have HO677 := n5_
            have HO683 := n6_
            have HO688 := n7_
            have HO692 := n8_
            have HO695 := n9_
            have HO698 := n10_
            have HO702 := n11_
            have HO705 := n12_
            have HO708 := n13_
            have HO711 := n14_
            have HO715 := n15_
            have HO718 := n16_
            have HO721 := n17_
            have HO724 := n18_
            have BK678 := n19_
            have BK679 := n20_
            have BK680 := n21_
            have BK684 := n22_
            have HB := n23_
            clear n0_ n1_ n2_ n3_ n4_ n5_ n6_ n7_ n8_ n9_ n10_ n11_ n12_ n13_ n14_ n15_ n16_ n17_ n18_ n19_ n20_ n21_ n22_ n23_
            (try clear hb)
            (try clear hb2)
            (try clear hk)
            (try clear hi)
            (try clear ho0)
            obtain ⟨Ao92, co92, eo92⟩ := Kd.R_slice HO721.out
            (first | subst eo92 | (injection eo92 with f1_ f2_ f3_; have f4_ := f1_.symm; have f5_ := f3_.symm; clear f1_ f2_ f3_; subst f4_; subst f5_))
            obtain ⟨Ao93, co93, eo93⟩ := Kd.R_slice HO724.out
            (first | subst eo93 | (injection eo93 with f1_ f2_ f3_; have f4_ := f1_.symm; have f5_ := f3_.symm; clear f1_ f2_ f3_; subst f4_; subst f5_))
            refine hK.out _ _ ⟨(blk_cell BK684.out 0).trans rfl, (blk_cell BK679.out 0).trans rfl, (blk_cell BK678.out 0).trans rfl, (blk_cell BK680.out 0).trans rfl⟩ (fun hHeld => ?_)
            clear hK K
            refine norm_ (a' := ?_) ?_ ?_
            rotate_left
            · show Act.put _ (some 72) _ = _
              simp only [Act.put, List.setIfInBounds_toArray, List.set_cons_zero, List.set_cons_succ, i64_w, i32_w]
              rfl
            refine one_ (i := 46) (N := some 73) #[true, true, true, true, true, true, true, true, true, true, true, true, true, true, true, true, true, true, true, true, true, true, true, true, true, true, true, true, true, true, true, true, true, true, true, true, true, true, true, true, true, true, true, true, true, true, true, false, false, false, false, false, false, false, false, false, false, false, false, false] rfl rfl (one_of HT_.out (by kernel_rfl)) (by decide) (fun K hK => ?_)
            refine goes_ Try.func37 (by kernel_rfl) rfl #[.agg #[.slice Ao92 t719.length co92], .agg #[.slice Ao93 t722.length co93]] (by rfl) rfl rfl (by (try simp only [List.map_toArray, List.map_cons, List.map_nil]); first | done | rfl | (simp only [List.length_drop, List.length_take]; rfl)) ?_
            with_reducible refine (nat_Cmp.calls k _ _ t719 _ _ t722 t725 _ ?side1 ?side2 ?side3 ?side4 A31.out).mono ?_
            (case side1 => repeat (first | exact (Kd.R_reads' HO721.out).2.2 | (with_reducible refine Kd.C_alloc ?_ _) | (with_reducible refine Kd.C_drewN ?_ _) | (with_reducible refine Kd.C_drew ?_)))
            (case side2 => exact (Kd.R_reads' HO721.out).2.1)
            (case side3 => repeat (first | exact (Kd.R_reads' HO724.out).2.2 | (with_reducible refine Kd.C_alloc ?_ _) | (with_reducible refine Kd.C_drewN ?_ _) | (with_reducible refine Kd.C_drew ?_)))
            (case side4 => exact (Kd.R_reads' HO724.out).2.1)
            rintro e w94 ⟨rfl, hb⟩
            refine ⟨_, rfl, ?_⟩
            have n0_ := Aside0.mk (Kd.V_below (by (with_reducible repeat (first | apply Kd.V_alloc | apply Kd.V_drewN | apply Kd.V_drew)); exact HO662.out) hb)
            have n1_ := Aside0.mk (Kd.R_below (by (with_reducible repeat (first | apply Kd.R_alloc | apply Kd.R_drewN | apply Kd.R_drew)); exact HO665.out) hb)
            have n2_ := Aside0.mk (Kd.V_below (by (with_reducible repeat (first | apply Kd.V_alloc | apply Kd.V_drewN | apply Kd.V_drew)); exact HO668.out) hb)
            have n3_ := Aside0.mk (Kd.R_below (by (with_reducible repeat (first | apply Kd.R_alloc | apply Kd.R_drewN | apply Kd.R_drew)); exact HO671.out) hb)
            have n4_ := Aside0.mk (Kd.V_below (by (with_reducible repeat (first | apply Kd.V_alloc | apply Kd.V_drewN | apply Kd.V_drew)); exact HO674.out) hb)
            have n5_ := Aside0.mk (Kd.R_below (by (with_reducible repeat (first | apply Kd.R_alloc | apply Kd.R_drewN | apply Kd.R_drew)); exact HO677.out) hb)
            have n6_ := Aside0.mk (Kd.R_below (by (with_reducible repeat (first | apply Kd.R_alloc | apply Kd.R_drewN | apply Kd.R_drew)); exact HO683.out) hb)
            have n7_ := Aside0.mk (Kd.R_below (by (with_reducible repeat (first | apply Kd.R_alloc | apply Kd.R_drewN | apply Kd.R_drew)); exact HO688.out) hb)
            have n8_ := Aside0.mk (Kd.R_below (by (with_reducible repeat (first | apply Kd.R_alloc | apply Kd.R_drewN | apply Kd.R_drew)); exact HO692.out) hb)
            have n9_ := Aside0.mk (Kd.R_below (by (with_reducible repeat (first | apply Kd.R_alloc | apply Kd.R_drewN | apply Kd.R_drew)); exact HO695.out) hb)
            have n10_ := Aside0.mk (Kd.R_below (by (with_reducible repeat (first | apply Kd.R_alloc | apply Kd.R_drewN | apply Kd.R_drew)); exact HO698.out) hb)
            have n11_ := Aside0.mk (Kd.R_below (by (with_reducible repeat (first | apply Kd.R_alloc | apply Kd.R_drewN | apply Kd.R_drew)); exact HO702.out) hb)
            have n12_ := Aside0.mk (Kd.R_below (by (with_reducible repeat (first | apply Kd.R_alloc | apply Kd.R_drewN | apply Kd.R_drew)); exact HO705.out) hb)
            have n13_ := Aside0.mk (Kd.R_below (by (with_reducible repeat (first | apply Kd.R_alloc | apply Kd.R_drewN | apply Kd.R_drew)); exact HO708.out) hb)
            have n14_ := Aside0.mk (Kd.R_below (by (with_reducible repeat (first | apply Kd.R_alloc | apply Kd.R_drewN | apply Kd.R_drew)); exact HO711.out) hb)
            have n15_ := Aside0.mk (Kd.R_below (by (with_reducible repeat (first | apply Kd.R_alloc | apply Kd.R_drewN | apply Kd.R_drew)); exact HO715.out) hb)
            have n16_ := Aside0.mk (Kd.R_below (by (with_reducible repeat (first | apply Kd.R_alloc | apply Kd.R_drewN | apply Kd.R_drew)); exact HO718.out) hb)
            have n17_ := Aside0.mk (Kd.R_below (by (with_reducible repeat (first | apply Kd.R_alloc | apply Kd.R_drewN | apply Kd.R_drew)); exact HO721.out) hb)
            have n18_ := Aside0.mk (Kd.R_below (by (with_reducible repeat (first | apply Kd.R_alloc | apply Kd.R_drewN | apply Kd.R_drew)); exact HO724.out) hb)
            have n19_ := Aside0.mk (blk_below (g := gb678) (o := .cells #[.slice Ao48 t663.length co48] 25 (0, 0)) (by (with_reducible repeat (first | refine blk_drewN ?_ _ | refine blk_drew ?_ | refine blk_alloc ?_ _)); exact BK678.out) hb)
            have n20_ := Aside0.mk (blk_below (g := gb679) (o := .cells #[.slice Ao52 t669.length co52] 25 (0, 0)) (by (with_reducible repeat (first | refine blk_drewN ?_ _ | refine blk_drew ?_ | refine blk_alloc ?_ _)); exact BK679.out) hb)
            have n21_ := Aside0.mk (blk_below (g := gb680) (o := .cells #[.slice Ao55 t675.length co55] 25 (0, 0)) (by (with_reducible repeat (first | refine blk_drewN ?_ _ | refine blk_drew ?_ | refine blk_alloc ?_ _)); exact BK680.out) hb)
            have n22_ := Aside0.mk (blk_below (g := gb684) (o := .cells #[.slice Ao59 t681.length co59] 25 (0, 0)) (by (with_reducible repeat (first | refine blk_drewN ?_ _ | refine blk_drew ?_ | refine blk_alloc ?_ _)); exact BK684.out) hb)
            have n23_ := Aside0.mk (below_step (by repeat (first | (with_reducible first | exact HB.out | apply below_alloc | apply pw_below_drewN | apply below_drew1 | refine below_set ?_ GE678.out | refine below_set ?_ GE679.out | refine below_set ?_ GE680.out | refine below_set ?_ GE684.out) | exact HB.out)) hb)
            clear HO662
            clear HO665
            clear HO668
            clear HO671
            clear HO674
            clear HO677
            clear HO683
            clear HO688
            clear HO692
            clear HO695
            clear HO698
            clear HO702
            clear HO705
            clear HO708
            clear HO711
            clear HO715
            clear HO718
            clear HO721
            clear HO724
            clear BK678
            clear BK679
            clear BK680
            clear BK684
            clear HB
            have HO662 := n0_
            have HO665 := n1_
            have HO668 := n2_
            have HO671 := n3_
            have HO674 := n4_
            have HO677 := n5_
            have HO683 := n6_
            have HO688 := n7_
            have HO692 := n8_
            have HO695 := n9_
            have HO698 := n10_
            have HO702 := n11_
            have HO705 := n12_
            have HO708 := n13_
            have HO711 := n14_
            have HO715 := n15_
            have HO718 := n16_
            have HO721 := n17_
            have HO724 := n18_
            have BK678 := n19_
            have BK679 := n20_
            have BK680 := n21_
            have BK684 := n22_
            have HB := n23_
            clear n0_ n1_ n2_ n3_ n4_ n5_ n6_ n7_ n8_ n9_ n10_ n11_ n12_ n13_ n14_ n15_ n16_ n17_ n18_ n19_ n20_ n21_ n22_ n23_
            (try clear hb)
            (try clear hb2)
            (try clear hk)
            (try clear hi)
            refine hK.out _ _ ⟨(blk_cell BK684.out 0).trans rfl, (blk_cell BK679.out 0).trans rfl, (blk_cell BK678.out 0).trans rfl, (blk_cell BK680.out 0).trans rfl⟩ (fun hHeld => ?_)
            clear hK K
            refine norm_ (a' := ?_) ?_ ?_
            rotate_left
            · show Act.put _ (some 73) _ = _
              simp only [Act.put, List.setIfInBounds_toArray, List.set_cons_zero, List.set_cons_succ, i64_w, i32_w]
              rfl
            refine pure_ (i := 47) (N := some 74) (v := ?_) (a' := ?_) #[true, true, true, true, true, true, true, true, true, true, true, true, true, true, true, true, true, true, true, true, true, true, true, true, true, true, true, true, true, true, true, true, true, true, true, true, true, true, true, true, true, true, true, true, true, true, true, true, false, false, false, false, false, false, false, false, false, false, false, false] rfl rfl (any_of HT_.out (by kernel_rfl)) (fun _ _ _ h => h) (Or.inl ⟨by rfl, ?_⟩) ?_ ?_
            rotate_left
            · intro w'
              go_simp
              with_reducible rfl
            rotate_left
            · simp only [Act.put, List.setIfInBounds_toArray, List.set_cons_zero, List.set_cons_succ, i64_w, i32_w]
              rfl
            refine pure_ (i := 48) (N := some 75) (v := ?_) (a' := ?_) #[true, true, true, true, true, true, true, true, true, true, true, true, true, true, true, true, true, true, true, true, true, true, true, true, true, true, true, true, true, true, true, true, true, true, true, true, true, true, true, true, true, true, true, true, true, true, true, true, true, false, false, false, false, false, false, false, false, false, false, false] rfl rfl (any_of HT_.out (by kernel_rfl)) (fun _ _ _ h => h) (Or.inl ⟨by rfl, ?_⟩) ?_ ?_
            rotate_left
            · intro w'
              go_simp
              with_reducible rfl
            rotate_left
            · simp only [Act.put, List.setIfInBounds_toArray, List.set_cons_zero, List.set_cons_succ, i64_w, i32_w]
              rfl
            refine pure_ (i := 49) (N := some 76) (v := ?_) (a' := ?_) #[true, true, true, true, true, true, true, true, true, true, true, true, true, true, true, true, true, true, true, true, true, true, true, true, true, true, true, true, true, true, true, true, true, true, true, true, true, true, true, true, true, true, true, true, true, true, true, true, true, true, false, false, false, false, false, false, false, false, false, false] rfl rfl (any_of HT_.out (by kernel_rfl)) (fun _ _ _ h => h) (Or.inl ⟨by rfl, ?_⟩) ?_ ?_
            rotate_left
            · intro w'
              go_simp
              with_reducible rfl
            rotate_left
            · simp only [Act.put, List.setIfInBounds_toArray, List.set_cons_zero, List.set_cons_succ, i64_w, i32_w]
              rfl
            refine take_ (i := 50) (N := some 77) (v := ?_) (a' := ?_) #[true, true, true, true, true, true, true, true, true, true, true, true, true, true, true, true, true, true, true, true, true, true, true, true, true, true, true, true, true, true, true, true, true, true, true, true, true, true, true, true, true, true, true, true, true, true, true, true, true, true, true, false, false, false, false, false, false, false, false, false] rfl rfl (take_ofW HT_.out HW_.out (by kernel_rfl)) (fun _ _ _ h => h) (Or.inl ⟨by rfl, ?_⟩) hHeld ?_ ?_
            rotate_left
            · rintro w' ⟨s0, s1, s2, s3⟩
              go_simp
              with_reducible rfl
            rotate_left
            · simp only [Act.put, List.setIfInBounds_toArray, List.set_cons_zero, List.set_cons_succ, i64_w, i32_w]
              rfl
            refine take_ (i := 52) (N := some 79) (v := ?_) (a' := ?_) #[true, true, true, true, true, true, true, true, true, true, true, true, true, true, true, true, true, true, true, true, true, true, true, true, true, true, true, true, true, true, true, true, true, true, true, true, true, true, true, true, true, true, true, true, true, true, true, true, true, true, true, false, true, false, false, false, false, false, false, false] rfl rfl (take_ofW HT_.out HW_.out (by kernel_rfl)) (fun _ _ _ h => h) (Or.inl ⟨by rfl, ?_⟩) hHeld ?_ ?_
            rotate_left
            · rintro w' ⟨s0, s1, s2, s3⟩
              go_simp
              with_reducible rfl
            rotate_left
            · simp only [Act.put, List.setIfInBounds_toArray, List.set_cons_zero, List.set_cons_succ, i64_w, i32_w]
              rfl
            refine take_ (i := 54) (N := some 81) (v := ?_) (a' := ?_) #[true, true, true, true, true, true, true, true, true, true, true, true, true, true, true, true, true, true, true, true, true, true, true, true, true, true, true, true, true, true, true, true, true, true, true, true, true, true, true, true, true, true, true, true, true, true, true, true, true, true, true, false, true, false, true, false, false, false, false, false] rfl rfl (take_ofW HT_.out HW_.out (by kernel_rfl)) (fun _ _ _ h => h) (Or.inl ⟨by rfl, ?_⟩) hHeld ?_ ?_
            rotate_left
            · rintro w' ⟨s0, s1, s2, s3⟩
              go_simp
              with_reducible rfl
            rotate_left
            · simp only [Act.put, List.setIfInBounds_toArray, List.set_cons_zero, List.set_cons_succ, i64_w, i32_w]
              rfl
            refine one_ (i := 51) (N := some 78) #[true, true, true, true, true, true, true, true, true, true, true, true, true, true, true, true, true, true, true, true, true, true, true, true, true, true, true, true, true, true, true, true, true, true, true, true, true, true, true, true, true, true, true, true, true, true, true, true, true, true, true, true, true, false, true, false, false, false, false, false] rfl rfl (one_of HT_.out (by kernel_rfl)) (by decide) (fun K hK => ?_)
            refine goes_ Try.func33 (by kernel_rfl) rfl #[.agg #[.slice Ao59 t681.length co59]] (by rfl) rfl rfl (by (try simp only [List.map_toArray, List.map_cons, List.map_nil]); first | done | rfl | (simp only [List.length_drop, List.length_take]; rfl)) ?_
            with_reducible refine (nat_Nat_Bits.calls _ _ t681 t726 _ ?side1 ?side2 A33.out).mono ?_
            (case side1 => repeat (first | exact (Kd.R_reads' HO683.out).2.2 | (with_reducible refine Kd.C_alloc ?_ _) | (with_reducible refine Kd.C_drewN ?_ _) | (with_reducible refine Kd.C_drew ?_)))
            (case side2 => exact (Kd.R_reads' HO683.out).2.1)
            rintro e w95 ⟨rfl, hb⟩
            refine ⟨_, rfl, ?_⟩
            have n0_ := Aside0.mk (Kd.V_below (by (with_reducible repeat (first | apply Kd.V_alloc | apply Kd.V_drewN | apply Kd.V_drew)); exact HO662.out) hb)
            have n1_ := Aside0.mk (Kd.R_below (by (with_reducible repeat (first | apply Kd.R_alloc | apply Kd.R_drewN | apply Kd.R_drew)); exact HO665.out) hb)
            have n2_ := Aside0.mk (Kd.V_below (by (with_reducible repeat (first | apply Kd.V_alloc | apply Kd.V_drewN | apply Kd.V_drew)); exact HO668.out) hb)
            have n3_ := Aside0.mk (Kd.R_below (by (with_reducible repeat (first | apply Kd.R_alloc | apply Kd.R_drewN | apply Kd.R_drew)); exact HO671.out) hb)
            have n4_ := Aside0.mk (Kd.V_below (by (with_reducible repeat (first | apply Kd.V_alloc | apply Kd.V_drewN | apply Kd.V_drew)); exact HO674.out) hb)
            have n5_ := Aside0.mk (Kd.R_below (by (with_reducible repeat (first | apply Kd.R_alloc | apply Kd.R_drewN | apply Kd.R_drew)); exact HO677.out) hb)
            have n6_ := Aside0.mk (Kd.R_below (by (with_reducible repeat (first | apply Kd.R_alloc | apply Kd.R_drewN | apply Kd.R_drew)); exact HO683.out) hb)
            have n7_ := Aside0.mk (Kd.R_below (by (with_reducible repeat (first | apply Kd.R_alloc | apply Kd.R_drewN | apply Kd.R_drew)); exact HO688.out) hb)
            have n8_ := Aside0.mk (Kd.R_below (by (with_reducible repeat (first | apply Kd.R_alloc | apply Kd.R_drewN | apply Kd.R_drew)); exact HO692.out) hb)
            have n9_ := Aside0.mk (Kd.R_below (by (with_reducible repeat (first | apply Kd.R_alloc | apply Kd.R_drewN | apply Kd.R_drew)); exact HO695.out) hb)
            have n10_ := Aside0.mk (Kd.R_below (by (with_reducible repeat (first | apply Kd.R_alloc | apply Kd.R_drewN | apply Kd.R_drew)); exact HO698.out) hb)
            have n11_ := Aside0.mk (Kd.R_below (by (with_reducible repeat (first | apply Kd.R_alloc | apply Kd.R_drewN | apply Kd.R_drew)); exact HO702.out) hb)
            have n12_ := Aside0.mk (Kd.R_below (by (with_reducible repeat (first | apply Kd.R_alloc | apply Kd.R_drewN | apply Kd.R_drew)); exact HO705.out) hb)
            have n13_ := Aside0.mk (Kd.R_below (by (with_reducible repeat (first | apply Kd.R_alloc | apply Kd.R_drewN | apply Kd.R_drew)); exact HO708.out) hb)
            have n14_ := Aside0.mk (Kd.R_below (by (with_reducible repeat (first | apply Kd.R_alloc | apply Kd.R_drewN | apply Kd.R_drew)); exact HO711.out) hb)
            have n15_ := Aside0.mk (Kd.R_below (by (with_reducible repeat (first | apply Kd.R_alloc | apply Kd.R_drewN | apply Kd.R_drew)); exact HO715.out) hb)
            have n16_ := Aside0.mk (Kd.R_below (by (with_reducible repeat (first | apply Kd.R_alloc | apply Kd.R_drewN | apply Kd.R_drew)); exact HO718.out) hb)
            have n17_ := Aside0.mk (Kd.R_below (by (with_reducible repeat (first | apply Kd.R_alloc | apply Kd.R_drewN | apply Kd.R_drew)); exact HO721.out) hb)
            have n18_ := Aside0.mk (Kd.R_below (by (with_reducible repeat (first | apply Kd.R_alloc | apply Kd.R_drewN | apply Kd.R_drew)); exact HO724.out) hb)
            have n19_ := Aside0.mk (blk_below (g := gb678) (o := .cells #[.slice Ao48 t663.length co48] 25 (0, 0)) (by (with_reducible repeat (first | refine blk_drewN ?_ _ | refine blk_drew ?_ | refine blk_alloc ?_ _)); exact BK678.out) hb)
            have n20_ := Aside0.mk (blk_below (g := gb679) (o := .cells #[.slice Ao52 t669.length co52] 25 (0, 0)) (by (with_reducible repeat (first | refine blk_drewN ?_ _ | refine blk_drew ?_ | refine blk_alloc ?_ _)); exact BK679.out) hb)
            have n21_ := Aside0.mk (blk_below (g := gb680) (o := .cells #[.slice Ao55 t675.length co55] 25 (0, 0)) (by (with_reducible repeat (first | refine blk_drewN ?_ _ | refine blk_drew ?_ | refine blk_alloc ?_ _)); exact BK680.out) hb)
            have n22_ := Aside0.mk (blk_below (g := gb684) (o := .cells #[.slice Ao59 t681.length co59] 25 (0, 0)) (by (with_reducible repeat (first | refine blk_drewN ?_ _ | refine blk_drew ?_ | refine blk_alloc ?_ _)); exact BK684.out) hb)
            have n23_ := Aside0.mk (below_step (by repeat (first | (with_reducible first | exact HB.out | apply below_alloc | apply pw_below_drewN | apply below_drew1 | refine below_set ?_ GE678.out | refine below_set ?_ GE679.out | refine below_set ?_ GE680.out | refine below_set ?_ GE684.out) | exact HB.out)) hb)
            clear HO662
            clear HO665
            clear HO668
            clear HO671
            clear HO674
            clear HO677
            clear HO683
            clear HO688
            clear HO692
            clear HO695
            clear HO698
            clear HO702
            clear HO705
            clear HO708
            clear HO711
            clear HO715
            clear HO718
            clear HO721
            clear HO724
            clear BK678
            clear BK679
            clear BK680
            clear BK684
            clear HB
            have HO662 := n0_
            have HO665 := n1_
            have HO668 := n2_
            have HO671 := n3_
            have HO674 := n4_
            have HO677 := n5_
            have HO683 := n6_
            have HO688 := n7_
            have HO692 := n8_
            have HO695 := n9_
            have HO698 := n10_
            have HO702 := n11_
            have HO705 := n12_
            have HO708 := n13_
            have HO711 := n14_
            have HO715 := n15_
            have HO718 := n16_
            have HO721 := n17_
            have HO724 := n18_
            have BK678 := n19_
            have BK679 := n20_
            have BK680 := n21_
            have BK684 := n22_
            have HB := n23_
            clear n0_ n1_ n2_ n3_ n4_ n5_ n6_ n7_ n8_ n9_ n10_ n11_ n12_ n13_ n14_ n15_ n16_ n17_ n18_ n19_ n20_ n21_ n22_ n23_
            (try clear hb)
            (try clear hb2)
            (try clear hk)
            (try clear hi)
            refine hK.out _ _ ⟨(blk_cell BK684.out 0).trans rfl, (blk_cell BK679.out 0).trans rfl, (blk_cell BK678.out 0).trans rfl, (blk_cell BK680.out 0).trans rfl⟩ (fun hHeld => ?_)
            clear hK K
            refine norm_ (a' := ?_) ?_ ?_
            rotate_left
            · show Act.put _ (some 78) _ = _
              simp only [Act.put, List.setIfInBounds_toArray, List.set_cons_zero, List.set_cons_succ, i64_w, i32_w]
              rfl
            refine one_ (i := 53) (N := some 80) #[true, true, true, true, true, true, true, true, true, true, true, true, true, true, true, true, true, true, true, true, true, true, true, true, true, true, true, true, true, true, true, true, true, true, true, true, true, true, true, true, true, true, true, true, true, true, true, true, true, true, true, true, true, true, true, false, false, false, false, false] rfl rfl (one_of HT_.out (by kernel_rfl)) (by decide) (fun K hK => ?_)
            refine goes_ Try.func33 (by kernel_rfl) rfl #[.agg #[.slice Ao48 t663.length co48]] (by rfl) rfl rfl (by (try simp only [List.map_toArray, List.map_cons, List.map_nil]); first | done | rfl | (simp only [List.length_drop, List.length_take]; rfl)) ?_
            with_reducible refine (nat_Nat_Bits.calls _ _ t663 t727 _ ?side1 ?side2 A34.out).mono ?_
            (case side1 => repeat (first | exact (Kd.R_reads' HO665.out).2.2 | (with_reducible refine Kd.C_alloc ?_ _) | (with_reducible refine Kd.C_drewN ?_ _) | (with_reducible refine Kd.C_drew ?_)))
            (case side2 => exact (Kd.R_reads' HO665.out).2.1)
            rintro e w96 ⟨rfl, hb⟩
            refine ⟨_, rfl, ?_⟩
            have n0_ := Aside0.mk (Kd.V_below (by (with_reducible repeat (first | apply Kd.V_alloc | apply Kd.V_drewN | apply Kd.V_drew)); exact HO662.out) hb)
            have n1_ := Aside0.mk (Kd.R_below (by (with_reducible repeat (first | apply Kd.R_alloc | apply Kd.R_drewN | apply Kd.R_drew)); exact HO665.out) hb)
            have n2_ := Aside0.mk (Kd.V_below (by (with_reducible repeat (first | apply Kd.V_alloc | apply Kd.V_drewN | apply Kd.V_drew)); exact HO668.out) hb)
            have n3_ := Aside0.mk (Kd.R_below (by (with_reducible repeat (first | apply Kd.R_alloc | apply Kd.R_drewN | apply Kd.R_drew)); exact HO671.out) hb)
            have n4_ := Aside0.mk (Kd.V_below (by (with_reducible repeat (first | apply Kd.V_alloc | apply Kd.V_drewN | apply Kd.V_drew)); exact HO674.out) hb)
            have n5_ := Aside0.mk (Kd.R_below (by (with_reducible repeat (first | apply Kd.R_alloc | apply Kd.R_drewN | apply Kd.R_drew)); exact HO677.out) hb)
            have n6_ := Aside0.mk (Kd.R_below (by (with_reducible repeat (first | apply Kd.R_alloc | apply Kd.R_drewN | apply Kd.R_drew)); exact HO683.out) hb)
            have n7_ := Aside0.mk (Kd.R_below (by (with_reducible repeat (first | apply Kd.R_alloc | apply Kd.R_drewN | apply Kd.R_drew)); exact HO688.out) hb)
            have n8_ := Aside0.mk (Kd.R_below (by (with_reducible repeat (first | apply Kd.R_alloc | apply Kd.R_drewN | apply Kd.R_drew)); exact HO692.out) hb)
            have n9_ := Aside0.mk (Kd.R_below (by (with_reducible repeat (first | apply Kd.R_alloc | apply Kd.R_drewN | apply Kd.R_drew)); exact HO695.out) hb)
            have n10_ := Aside0.mk (Kd.R_below (by (with_reducible repeat (first | apply Kd.R_alloc | apply Kd.R_drewN | apply Kd.R_drew)); exact HO698.out) hb)
            have n11_ := Aside0.mk (Kd.R_below (by (with_reducible repeat (first | apply Kd.R_alloc | apply Kd.R_drewN | apply Kd.R_drew)); exact HO702.out) hb)
            have n12_ := Aside0.mk (Kd.R_below (by (with_reducible repeat (first | apply Kd.R_alloc | apply Kd.R_drewN | apply Kd.R_drew)); exact HO705.out) hb)
            have n13_ := Aside0.mk (Kd.R_below (by (with_reducible repeat (first | apply Kd.R_alloc | apply Kd.R_drewN | apply Kd.R_drew)); exact HO708.out) hb)
            have n14_ := Aside0.mk (Kd.R_below (by (with_reducible repeat (first | apply Kd.R_alloc | apply Kd.R_drewN | apply Kd.R_drew)); exact HO711.out) hb)
            have n15_ := Aside0.mk (Kd.R_below (by (with_reducible repeat (first | apply Kd.R_alloc | apply Kd.R_drewN | apply Kd.R_drew)); exact HO715.out) hb)
            have n16_ := Aside0.mk (Kd.R_below (by (with_reducible repeat (first | apply Kd.R_alloc | apply Kd.R_drewN | apply Kd.R_drew)); exact HO718.out) hb)
            have n17_ := Aside0.mk (Kd.R_below (by (with_reducible repeat (first | apply Kd.R_alloc | apply Kd.R_drewN | apply Kd.R_drew)); exact HO721.out) hb)
            have n18_ := Aside0.mk (Kd.R_below (by (with_reducible repeat (first | apply Kd.R_alloc | apply Kd.R_drewN | apply Kd.R_drew)); exact HO724.out) hb)
            have n19_ := Aside0.mk (blk_below (g := gb678) (o := .cells #[.slice Ao48 t663.length co48] 25 (0, 0)) (by (with_reducible repeat (first | refine blk_drewN ?_ _ | refine blk_drew ?_ | refine blk_alloc ?_ _)); exact BK678.out) hb)
            have n20_ := Aside0.mk (blk_below (g := gb679) (o := .cells #[.slice Ao52 t669.length co52] 25 (0, 0)) (by (with_reducible repeat (first | refine blk_drewN ?_ _ | refine blk_drew ?_ | refine blk_alloc ?_ _)); exact BK679.out) hb)
            have n21_ := Aside0.mk (blk_below (g := gb680) (o := .cells #[.slice Ao55 t675.length co55] 25 (0, 0)) (by (with_reducible repeat (first | refine blk_drewN ?_ _ | refine blk_drew ?_ | refine blk_alloc ?_ _)); exact BK680.out) hb)
            have n22_ := Aside0.mk (blk_below (g := gb684) (o := .cells #[.slice Ao59 t681.length co59] 25 (0, 0)) (by (with_reducible repeat (first | refine blk_drewN ?_ _ | refine blk_drew ?_ | refine blk_alloc ?_ _)); exact BK684.out) hb)
            have n23_ := Aside0.mk (below_step (by repeat (first | (with_reducible first | exact HB.out | apply below_alloc | apply pw_below_drewN | apply below_drew1 | refine below_set ?_ GE678.out | refine below_set ?_ GE679.out | refine below_set ?_ GE680.out | refine below_set ?_ GE684.out) | exact HB.out)) hb)
            clear HO662
            clear HO665
            clear HO668
            clear HO671
            clear HO674
            clear HO677
            clear HO683
            clear HO688
            clear HO692
            clear HO695
            clear HO698
            clear HO702
            clear HO705
            clear HO708
            clear HO711
            clear HO715
            clear HO718
            clear HO721
            clear HO724
            clear BK678
            clear BK679
            clear BK680
            clear BK684
            clear HB
            have HO662 := n0_
            have HO665 := n1_
            have HO668 := n2_
            have HO671 := n3_
            have HO674 := n4_
            have HO677 := n5_
            have HO683 := n6_
            have HO688 := n7_
            have HO692 := n8_
            have HO695 := n9_
            have HO698 := n10_
            have HO702 := n11_
            have HO705 := n12_
            have HO708 := n13_
            have HO711 := n14_
            have HO715 := n15_
            have HO718 := n16_
            have HO721 := n17_
            have HO724 := n18_
            have BK678 := n19_
            have BK679 := n20_
            have BK680 := n21_
            have BK684 := n22_
            have HB := n23_
            clear n0_ n1_ n2_ n3_ n4_ n5_ n6_ n7_ n8_ n9_ n10_ n11_ n12_ n13_ n14_ n15_ n16_ n17_ n18_ n19_ n20_ n21_ n22_ n23_
            (try clear hb)
            (try clear hb2)
            (try clear hk)
            (try clear hi)
            refine hK.out _ _ ⟨(blk_cell BK684.out 0).trans rfl, (blk_cell BK679.out 0).trans rfl, (blk_cell BK678.out 0).trans rfl, (blk_cell BK680.out 0).trans rfl⟩ (fun hHeld => ?_)
            clear hK K
            refine norm_ (a' := ?_) ?_ ?_
            rotate_left
            · show Act.put _ (some 80) _ = _
              simp only [Act.put, List.setIfInBounds_toArray, List.set_cons_zero, List.set_cons_succ, i64_w, i32_w]
              rfl
            refine one_ (i := 55) (N := some 82) #[true, true, true, true, true, true, true, true, true, true, true, true, true, true, true, true, true, true, true, true, true, true, true, true, true, true, true, true, true, true, true, true, true, true, true, true, true, true, true, true, true, true, true, true, true, true, true, true, true, true, true, true, true, true, true, true, false, false, false, false] rfl rfl (one_of HT_.out (by kernel_rfl)) (by decide) (fun K hK => ?_)
            refine goes_ Try.func33 (by kernel_rfl) rfl #[.agg #[.slice Ao52 t669.length co52]] (by rfl) rfl rfl (by (try simp only [List.map_toArray, List.map_cons, List.map_nil]); first | done | rfl | (simp only [List.length_drop, List.length_take]; rfl)) ?_
            with_reducible refine (nat_Nat_Bits.calls _ _ t669 t728 _ ?side1 ?side2 A35.out).mono ?_
            (case side1 => repeat (first | exact (Kd.R_reads' HO671.out).2.2 | (with_reducible refine Kd.C_alloc ?_ _) | (with_reducible refine Kd.C_drewN ?_ _) | (with_reducible refine Kd.C_drew ?_)))
            (case side2 => exact (Kd.R_reads' HO671.out).2.1)
            rintro e w97 ⟨rfl, hb⟩
            refine ⟨_, rfl, ?_⟩
            have n0_ := Aside0.mk (Kd.V_below (by (with_reducible repeat (first | apply Kd.V_alloc | apply Kd.V_drewN | apply Kd.V_drew)); exact HO662.out) hb)
            have n1_ := Aside0.mk (Kd.R_below (by (with_reducible repeat (first | apply Kd.R_alloc | apply Kd.R_drewN | apply Kd.R_drew)); exact HO665.out) hb)
            have n2_ := Aside0.mk (Kd.V_below (by (with_reducible repeat (first | apply Kd.V_alloc | apply Kd.V_drewN | apply Kd.V_drew)); exact HO668.out) hb)
            have n3_ := Aside0.mk (Kd.R_below (by (with_reducible repeat (first | apply Kd.R_alloc | apply Kd.R_drewN | apply Kd.R_drew)); exact HO671.out) hb)
            have n4_ := Aside0.mk (Kd.V_below (by (with_reducible repeat (first | apply Kd.V_alloc | apply Kd.V_drewN | apply Kd.V_drew)); exact HO674.out) hb)
            have n5_ := Aside0.mk (Kd.R_below (by (with_reducible repeat (first | apply Kd.R_alloc | apply Kd.R_drewN | apply Kd.R_drew)); exact HO677.out) hb)
            have n6_ := Aside0.mk (Kd.R_below (by (with_reducible repeat (first | apply Kd.R_alloc | apply Kd.R_drewN | apply Kd.R_drew)); exact HO683.out) hb)
            have n7_ := Aside0.mk (Kd.R_below (by (with_reducible repeat (first | apply Kd.R_alloc | apply Kd.R_drewN | apply Kd.R_drew)); exact HO688.out) hb)
            have n8_ := Aside0.mk (Kd.R_below (by (with_reducible repeat (first | apply Kd.R_alloc | apply Kd.R_drewN | apply Kd.R_drew)); exact HO692.out) hb)
            have n9_ := Aside0.mk (Kd.R_below (by (with_reducible repeat (first | apply Kd.R_alloc | apply Kd.R_drewN | apply Kd.R_drew)); exact HO695.out) hb)
            have n10_ := Aside0.mk (Kd.R_below (by (with_reducible repeat (first | apply Kd.R_alloc | apply Kd.R_drewN | apply Kd.R_drew)); exact HO698.out) hb)
            have n11_ := Aside0.mk (Kd.R_below (by (with_reducible repeat (first | apply Kd.R_alloc | apply Kd.R_drewN | apply Kd.R_drew)); exact HO702.out) hb)
            have n12_ := Aside0.mk (Kd.R_below (by (with_reducible repeat (first | apply Kd.R_alloc | apply Kd.R_drewN | apply Kd.R_drew)); exact HO705.out) hb)
            have n13_ := Aside0.mk (Kd.R_below (by (with_reducible repeat (first | apply Kd.R_alloc | apply Kd.R_drewN | apply Kd.R_drew)); exact HO708.out) hb)
            have n14_ := Aside0.mk (Kd.R_below (by (with_reducible repeat (first | apply Kd.R_alloc | apply Kd.R_drewN | apply Kd.R_drew)); exact HO711.out) hb)
            have n15_ := Aside0.mk (Kd.R_below (by (with_reducible repeat (first | apply Kd.R_alloc | apply Kd.R_drewN | apply Kd.R_drew)); exact HO715.out) hb)
            have n16_ := Aside0.mk (Kd.R_below (by (with_reducible repeat (first | apply Kd.R_alloc | apply Kd.R_drewN | apply Kd.R_drew)); exact HO718.out) hb)
            have n17_ := Aside0.mk (Kd.R_below (by (with_reducible repeat (first | apply Kd.R_alloc | apply Kd.R_drewN | apply Kd.R_drew)); exact HO721.out) hb)
            have n18_ := Aside0.mk (Kd.R_below (by (with_reducible repeat (first | apply Kd.R_alloc | apply Kd.R_drewN | apply Kd.R_drew)); exact HO724.out) hb)
            have n19_ := Aside0.mk (blk_below (g := gb678) (o := .cells #[.slice Ao48 t663.length co48] 25 (0, 0)) (by (with_reducible repeat (first | refine blk_drewN ?_ _ | refine blk_drew ?_ | refine blk_alloc ?_ _)); exact BK678.out) hb)
            have n20_ := Aside0.mk (blk_below (g := gb679) (o := .cells #[.slice Ao52 t669.length co52] 25 (0, 0)) (by (with_reducible repeat (first | refine blk_drewN ?_ _ | refine blk_drew ?_ | refine blk_alloc ?_ _)); exact BK679.out) hb)
            have n21_ := Aside0.mk (blk_below (g := gb680) (o := .cells #[.slice Ao55 t675.length co55] 25 (0, 0)) (by (with_reducible repeat (first | refine blk_drewN ?_ _ | refine blk_drew ?_ | refine blk_alloc ?_ _)); exact BK680.out) hb)
            have n22_ := Aside0.mk (blk_below (g := gb684) (o := .cells #[.slice Ao59 t681.length co59] 25 (0, 0)) (by (with_reducible repeat (first | refine blk_drewN ?_ _ | refine blk_drew ?_ | refine blk_alloc ?_ _)); exact BK684.out) hb)
            have n23_ := Aside0.mk (below_step (by repeat (first | (with_reducible first | exact HB.out | apply below_alloc | apply pw_below_drewN | apply below_drew1 | refine below_set ?_ GE678.out | refine below_set ?_ GE679.out | refine below_set ?_ GE680.out | refine below_set ?_ GE684.out) | exact HB.out)) hb)
            clear HO662
            clear HO665
            clear HO668
            clear HO671
            clear HO674
            clear HO677
            clear HO683
            clear HO688
            clear HO692
            clear HO695
            clear HO698
            clear HO702
            clear HO705
            clear HO708
            clear HO711
            clear HO715
            clear HO718
            clear HO721
            clear HO724
            clear BK678
            clear BK679
            clear BK680
            clear BK684
            clear HB
            have HO662 := n0_
            have HO665 := n1_
            have HO668 := n2_
            have HO671 := n3_
            have HO674 := n4_
            have HO677 := n5_
            have HO683 := n6_
            have HO688 := n7_
            have HO692 := n8_
            have HO695 := n9_
            have HO698 := n10_
            have HO702 := n11_
            have HO705 := n12_
            have HO708 := n13_
            have HO711 := n14_
            have HO715 := n15_
            have HO718 := n16_
            have HO721 := n17_
            have HO724 := n18_
            have BK678 := n19_
            have BK679 := n20_
            have BK680 := n21_
            have BK684 := n22_
            have HB := n23_
            clear n0_ n1_ n2_ n3_ n4_ n5_ n6_ n7_ n8_ n9_ n10_ n11_ n12_ n13_ n14_ n15_ n16_ n17_ n18_ n19_ n20_ n21_ n22_ n23_
            (try clear hb)
            (try clear hb2)
            (try clear hk)
            (try clear hi)
            refine hK.out _ _ ⟨(blk_cell BK684.out 0).trans rfl, (blk_cell BK679.out 0).trans rfl, (blk_cell BK678.out 0).trans rfl, (blk_cell BK680.out 0).trans rfl⟩ (fun hHeld => ?_)
            clear hK K
            refine norm_ (a' := ?_) ?_ ?_
            rotate_left
            · show Act.put _ (some 82) _ = _
              simp only [Act.put, List.setIfInBounds_toArray, List.set_cons_zero, List.set_cons_succ, i64_w, i32_w]
              rfl
            refine pure_ (i := 56) (N := some 83) (v := ?_) (a' := ?_) #[true, true, true, true, true, true, true, true, true, true, true, true, true, true, true, true, true, true, true, true, true, true, true, true, true, true, true, true, true, true, true, true, true, true, true, true, true, true, true, true, true, true, true, true, true, true, true, true, true, true, true, true, true, true, true, true, true, false, false, false] rfl rfl (any_of HT_.out (by kernel_rfl)) (fun _ _ _ h => h) (Or.inl ⟨by rfl, ?_⟩) ?_ ?_
            rotate_left
            · intro w'
              go_simp
              with_reducible rfl
            rotate_left
            · simp only [Act.put, List.setIfInBounds_toArray, List.set_cons_zero, List.set_cons_succ, i64_w, i32_w]
              rfl
            refine pure_ (i := 57) (N := some 84) (v := ?_) (a' := ?_) #[true, true, true, true, true, true, true, true, true, true, true, true, true, true, true, true, true, true, true, true, true, true, true, true, true, true, true, true, true, true, true, true, true, true, true, true, true, true, true, true, true, true, true, true, true, true, true, true, true, true, true, true, true, true, true, true, true, true, false, false] rfl rfl (any_of HT_.out (by kernel_rfl)) (fun _ _ _ h => h) (Or.inl ⟨by rfl, ?_⟩) ?_ ?_
            rotate_left
            · intro w'
              go_simp
              with_reducible rfl
            rotate_left
            · simp only [Act.put, List.setIfInBounds_toArray, List.set_cons_zero, List.set_cons_succ, i64_w, i32_w]
              rfl
            refine pure_ (i := 58) (N := some 85) (v := ?_) (a' := ?_) #[true, true, true, true, true, true, true, true, true, true, true, true, true, true, true, true, true, true, true, true, true, true, true, true, true, true, true, true, true, true, true, true, true, true, true, true, true, true, true, true, true, true, true, true, true, true, true, true, true, true, true, true, true, true, true, true, true, true, true, false] rfl rfl (any_of HT_.out (by kernel_rfl)) (fun _ _ _ h => h) (Or.inl ⟨by rfl, ?_⟩) ?_ ?_
            rotate_left
            · intro w'
              go_simp
              with_reducible rfl
            rotate_left
            · simp only [Act.put, List.setIfInBounds_toArray, List.set_cons_zero, List.set_cons_succ, i64_w, i32_w]
              rfl
            refine pure_ (i := 59) (N := some 6) (v := ?_) (a' := ?_) #[true, true, true, true, true, true, true, true, true, true, true, true, true, true, true, true, true, true, true, true, true, true, true, true, true, true, true, true, true, true, true, true, true, true, true, true, true, true, true, true, true, true, true, true, true, true, true, true, true, true, true, true, true, true, true, true, true, true, true, true] rfl rfl (any_of HT_.out (by kernel_rfl)) (fun _ _ _ h => h) (Or.inl ⟨by rfl, ?_⟩) ?_ ?_
            rotate_left
            · intro w'
              go_simp
              with_reducible rfl
            rotate_left
            · simp only [Act.put, List.setIfInBounds_toArray, List.set_cons_zero, List.set_cons_succ, i64_w, i32_w]
              rfl
            refine done_ (done_of HT_.out (by kernel_rfl)) ?_
            try go_wp2
            go_ret
            exact ⟨by first | rfl | (simp [errW_none, errW_some] <;> rfl) | (simp [*, errW_none, errW_some] <;> rfl), by repeat (first | (with_reducible first | exact HB.out | apply below_alloc | apply pw_below_drewN | apply below_drew1 | refine below_set ?_ GE678.out | refine below_set ?_ GE679.out | refine below_set ?_ GE680.out | refine below_set ?_ GE684.out) | exact HB.out)⟩
          · rw [if_neg c32] at H
            exact absurd (H.trans (congrArg some HR_.out)) (by simp)
        · rw [if_neg c26] at H
          exact absurd (H.trans (congrArg some HR_.out)) (by simp)
      · rw [if_neg c20] at H
        exact absurd (H.trans (congrArg some HR_.out)) (by simp)
    · rw [if_neg c15] at H
      exact absurd (H.trans (congrArg some HR_.out)) (by simp)
  · replace c12 := Bool.eq_false_iff.mpr c12
    subst c12
    have H1 : (some false) = some r := by rw [if_neg (show ¬ (false = true) by decide)] at H; exact H
    clear H
    have H := H1
    clear H1
    exact absurd (H.trans (congrArg some HR_.out)) (by simp)

/-- THE ONE PURE STATEMENT of numerarylaw03_TimesLaws: yours. -/
def numerarylaw03_TimesLaws.Pure : Prop := ∀ (l0 : List Int) (l1 : List Int) (l2 : List Int), l0.length ≤ maxLen → l0.length * 4 ≤ 140737488351232 → (∀ x ∈ l0, (Lit.int .u32 x).wf = true) → l1.length ≤ maxLen → l1.length * 4 ≤ 140737488351232 → (∀ x ∈ l1, (Lit.int .u32 x).wf = true) → l2.length ≤ maxLen → l2.length * 4 ≤ 140737488351232 → (∀ x ∈ l2, (Lit.int .u32 x).wf = true) → ∃ k, numerarylaw03_TimesLaws.f k l0 l1 l2 = some true
theorem numerarylaw03_TimesLaws.walk (P : numerarylaw03_TimesLaws.Pure) (a0 : Option Addr) (len0 cap0 : Nat) (z0 : List Int) (a1 : Option Addr) (len1 cap1 : Nat) (z1 : List Int) (a2 : Option Addr) (len2 cap2 : Nat) (z2 : List Int) (w : World) (w0 : (a0 = none ∧ len0 = 0 ∧ cap0 = 0 ∧ z0 = []) ∨ ∃ x, a0 = some x ∧ len0 ≤ cap0 ∧ cap0 ≤ maxLen ∧ z0.length = cap0 ∧ (∀ i, i < z0.length → w.cell? (x.add i) = some (.int .u32 (z0.getD i 0))) ∧ ∀ n ∈ z0, (Lit.int .u32 n).wf = true) (y0 : len0 * 4 ≤ 140737488351232) (w1 : (a1 = none ∧ len1 = 0 ∧ cap1 = 0 ∧ z1 = []) ∨ ∃ x, a1 = some x ∧ len1 ≤ cap1 ∧ cap1 ≤ maxLen ∧ z1.length = cap1 ∧ (∀ i, i < z1.length → w.cell? (x.add i) = some (.int .u32 (z1.getD i 0))) ∧ ∀ n ∈ z1, (Lit.int .u32 n).wf = true) (y1 : len1 * 4 ≤ 140737488351232) (w2 : (a2 = none ∧ len2 = 0 ∧ cap2 = 0 ∧ z2 = []) ∨ ∃ x, a2 = some x ∧ len2 ≤ cap2 ∧ cap2 ≤ maxLen ∧ z2.length = cap2 ∧ (∀ i, i < z2.length → w.cell? (x.add i) = some (.int .u32 (z2.getD i 0))) ∧ ∀ n ∈ z2, (Lit.int .u32 n).wf = true) (y2 : len2 * 4 ≤ 140737488351232) :
    Calls Try.prog 10 #[.slice a0 len0 cap0, .slice a1 len1 cap1, .slice a2 len2 cap2] w fun e w' => e = .returned (.bool true) ∧ Below w.heap.size w w' := by
  obtain ⟨l0, rfl, hr0, hm0, hw0, hc0⟩ := ReadsInt.ofRowC w0
  obtain ⟨l1, rfl, hr1, hm1, hw1, hc1⟩ := ReadsInt.ofRowC w1
  obtain ⟨l2, rfl, hr2, hm2, hw2, hc2⟩ := ReadsInt.ofRowC w2
  obtain ⟨k, h⟩ := P l0 l1 l2 hm0 y0 hw0 hm1 y1 hw1 hm2 y2 hw2
  refine (numerarylaw03_TimesLaws.calls k _ _ l0 _ _ l1 _ _ l2 true w (Kd.C_of_reads (d := (0 : Int)) (h1 := fun _ => rfl) hr0) hc0 (Kd.C_of_reads (d := (0 : Int)) (h1 := fun _ => rfl) hr1) hc1 (Kd.C_of_reads (d := (0 : Int)) (h1 := fun _ => rfl) hr2) hc2 h rfl).mono ?_
  rintro e w' ⟨rfl, hd⟩
  exact ⟨rfl, hd⟩

end Go.Proofs.Ytcepdndhkidehaa.PA
end
