/- The quotient and the rest of every number of up to twelve limbs, divided by one of up to eight, are the document's, or there are none. -/
import Derived.Below
import Derived.ChangeOld
import Derived.OpenShut
import Derived.ProofKit
import Derived.ShutString
import Derived.SizedLaws
import Derived.Test.YtcepdndhkidehaaCQuotDividesWSized
import Derived.Test.YtcepdndhkidehaaRows
import Derived.WalkKit
import Derived.Test.YtcepdndhkidehaaCQuotDivides0
import Derived.Test.YtcepdndhkidehaaCQuotDivides1
import Derived.Test.YtcepdndhkidehaaCQuotDivides2
import Derived.Test.YtcepdndhkidehaaCQuotDivides3
section
namespace Go.Proofs.Ytcepdndhkidehaa.PA
open Go.RowKit Go.Proofs.YtcepdndhkidehaaW.PrintWords Go.Proofs.YtcepdndhkidehaaW.PrintLast Go.Proofs.YtcepdndhkidehaaW.PrintMore
attribute [local go_sem] max2_int min2_int max_two min_two max_three min_three max_four min_four   -- for this text's walks alone
set_option linter.unusedVariables false
set_option linter.unusedSimpArgs false

/-! ### nat_Sub: function 36 -/
def nat_Sub.l0 : Nat → List Int → Int → Int → Int → List Int → List Int → Option (List Int × Bool)
  | 0, _, _, _, _, _, _ => none
  | k + 1, x6, x7, x19, x20, x366000, x367000 => if x20 < x19 then ((nat_Nat_at.f x366000 x20).bind fun t372 => ((nat_Nat_at.f x367000 x20).bind fun t373 => ((bits_Sub32.f t372 t373 x7).bind fun bt374 => (if 0 ≤ x20 then (if x20 < (x6.length : Int) then (nat_Sub.l0 k (x6.set (x20 : Int).toNat bt374.1) bt374.2 x19 (wrap64 (x20 + 1)) x366000 x367000) else (none)) else (none))))) else ((nat_Made.f k x6).bind fun t377 => (some (t377, true)))
def nat_Sub.f (k : Nat) (l0_0 : List Int) (l1_0 : List Int) : Option (List Int × Bool) := (nat_Cmp.f k l0_0 l1_0).bind fun t368 => (if t368 < 0 then (some (([] : List Int), false)) else (if 0 ≤ (l0_0.length : Int) then (if ((l0_0.length : Int) : Int).toNat ≤ 70368744177664 then ((some (List.replicate ((l0_0.length : Int) : Int).toNat 0 : List Int)).bind fun y369 => (nat_Sub.l0 k y369 0 (y369.length : Int) 0 l0_0 l1_0)) else (none)) else (none)))
theorem nat_Sub.mono_l : ∀ k, (∀ y0 y1 y2 y3 y4 y5, LeO (nat_Sub.l0 k y0 y1 y2 y3 y4 y5) (nat_Sub.l0 (k + 1) y0 y1 y2 y3 y4 y5))
  | 0 => fun _ _ _ _ _ _ r h => by simp [nat_Sub.l0] at h
  | k + 1 => by
    have ih0 := nat_Sub.mono_l k
    intro y0 y1 y2 y3 y4 y5
    unfold nat_Sub.l0
    repeat' first
    | (with_reducible exact ih0 _ _ _ _ _ _)
    | (with_reducible exact nat_Cmp.mono _ _ _)
    | (with_reducible exact nat_Made.mono _ _)
    | (with_reducible exact LeO.refl _)
    | (with_reducible exact LeO.none _)
    | (with_reducible refine LeO.ite ?_ ?_)
    | (with_reducible refine LeO.bind ?_ (fun _ => ?_))
    | exact ih0 _ _ _ _ _ _
    | exact nat_Cmp.mono _ _ _
    | exact nat_Made.mono _ _
    | exact LeO.none _
    | refine LeO.ite ?_ ?_
    | refine LeO.bind ?_ (fun _ => ?_)
theorem nat_Sub.mono : ∀ a0 a1 k, LeO (nat_Sub.f k a0 a1) (nat_Sub.f (k + 1) a0 a1) := by
  intro a0 a1 k
  have ih0 := nat_Sub.mono_l k
  unfold nat_Sub.f
  repeat' first
      | (with_reducible exact ih0 _ _ _ _ _ _)
      | (with_reducible exact nat_Cmp.mono _ _ _)
      | (with_reducible exact nat_Made.mono _ _)
      | (with_reducible exact LeO.refl _)
      | (with_reducible exact LeO.none _)
      | (with_reducible refine LeO.ite ?_ ?_)
      | (with_reducible refine LeO.bind ?_ (fun _ => ?_))
def nat_Sub.T8 : Bool × List (List Nat × List Nat) := (true, [([], []), ([], []), ([], []), ([], []), ([2, 3], [2, 3]), ([], []), ([], []), ([5, 6, 4], [5, 6]), ([], []), ([4, 7, 8, 7], [4, 7, 8]), ([9], [9]), ([10], [10]), ([10], [10]), ([0, 1, 0, 1, 2, 3, 4, 5, 6, 7, 8, 9, 10, 11], [0, 1]), ([13, 11, 9, 0, 1, 2, 3, 4, 5, 6, 7, 8, 9, 10, 11], [11, 13]), ([12, 14, 0, 1, 2, 3, 4, 5, 6, 7, 8, 9, 10, 11, 12, 13, 14], [8, 12])])
def nat_Sub.B8 : List Nat := [0, 0, 0, 0, 12, 0, 0, 124, 0, 508, 1020, 2044, 2044, 4095, 12287, 32767]
theorem nat_Sub.tab8 : rtab .any (opsOf Try.f36 8) = nat_Sub.T8 := by kernel_rfl
theorem nat_Sub.bits8 : waitsOk nat_Sub.T8.2 nat_Sub.B8 = true := by kernel_rfl
set_option maxHeartbeats 8000000 in
set_option maxRecDepth 100000 in
theorem nat_Sub.calls (k : Nat) (A0_0 : Option Addr) (c0_0 : Nat) (l0_0 : List Int) (A1_0 : Option Addr) (c1_0 : Nat) (l1_0 : List Int) (r1 : List Int) (r2 : Bool) (w : World) (hr0_0 : Kd.C (Kd.int .u32) w A0_0 l0_0.length l0_0) (hc0_0 : l0_0.length ≤ c0_0) (hr1_0 : Kd.C (Kd.int .u32) w A1_0 l1_0.length l1_0) (hc1_0 : l1_0.length ≤ c1_0) (h : nat_Sub.f k l0_0 l1_0 = some (r1, r2)) :
    Calls Try.prog 36 #[.agg #[.slice A0_0 l0_0.length c0_0], .agg #[.slice A1_0 l1_0.length c1_0]] w fun e w' => ∃ v0_ : Value, e = .returned (.tuple #[.agg #[v0_], .bool r2]) ∧ Kd.R (Kd.int .u32) 23 w' w.heap.size (fun _ => True) v0_ r1 ∧ Below w.heap.size w w' := by
  have hu25 := Try.underlying25
  have HR0_0 := Aside0.mk hr0_0
  have HC0_0 := Aside0.mk hc0_0
  clear hr0_0 hc0_0
  have HR1_0 := Aside0.mk hr1_0
  have HC1_0 := Aside0.mk hc1_0
  clear hr1_0 hc1_0
  have HB := Aside0.mk (Below.refl w.heap.size w)
  have H : ((nat_Cmp.f k l0_0 l1_0).bind fun t368 => (if t368 < 0 then (some (([] : List Int), false)) else (if 0 ≤ (l0_0.length : Int) then (if ((l0_0.length : Int) : Int).toNat ≤ 70368744177664 then ((some (List.replicate ((l0_0.length : Int) : Int).toNat 0 : List Int)).bind fun y369 => (nat_Sub.l0 k y369 0 (y369.length : Int) 0 l0_0 l1_0)) else (none)) else (none)))) = some (r1, r2) := h
  clear h
  replace H := Option.bind_eq_some_iff.mp H
  obtain ⟨t368, A30, H⟩ := H
  have A3 := Aside0.mk A30
  clear A30
  by_cases c4 : t368 < 0
  · rw [if_pos c4] at H
    have c4b0 : decide (t368 < 0) = true := decide_eq_true c4
    clear c4
    simp only [Option.some.injEq, Prod.mk.injEq] at H
    obtain ⟨rfl, rfl⟩ := H
    go_enter Try.func36, Try.ntmps36
    go_wp2_with (first | ((with_reducible refine gate_dst (N := 2) rfl ?_); refine box_event ?hg (N := 2) ?hd (cs := #[.slice A0_0 l0_0.length c0_0]) (t := 25) ?hr ?_; (case hd => rfl); (case hg => rfl); (case hr => first | (go_simp; done) | (go_simp; rfl)); intro gb365 hg w5 hbox hb; have BK365 := Aside0.mk (hbox); have GW365 := Aside0.mk ((by rw [hg]; exact (below_size (by repeat (first | (with_reducible first | exact HB.out | apply below_alloc | apply pw_below_drewN | apply below_drew1) | exact HB.out))) : w.heap.size ≤ gb365)); have GE365 := Aside0.mk ((by rw [hg]; exact (below_size (by repeat (first | (with_reducible first | exact HB.out | apply below_alloc | apply pw_below_drewN | apply below_drew1) | exact HB.out))) : w.heap.size ≤ gb365)); replace HB := Aside0.mk (below_step (by repeat (first | (with_reducible first | exact HB.out | apply below_alloc | apply pw_below_drewN | apply below_drew1) | exact HB.out)) hb); clear hb hbox hg) | ((with_reducible refine gate_dst (N := 3) rfl ?_); refine box_event ?hg (N := 3) ?hd (cs := #[.slice A1_0 l1_0.length c1_0]) (t := 25) ?hr ?_; (case hd => rfl); (case hg => rfl); (case hr => first | (go_simp; done) | (go_simp; rfl)); intro gb366 hg w6 hbox hb; have BK366 := Aside0.mk (hbox); have GW366 := Aside0.mk ((by rw [hg]; exact (below_size (by repeat (first | (with_reducible first | exact HB.out | apply below_alloc | apply pw_below_drewN | apply below_drew1 | refine below_set ?_ GE365.out) | exact HB.out))) : w.heap.size ≤ gb366)); have GE366 := Aside0.mk ((by rw [hg]; exact (below_size (by repeat (first | (with_reducible first | exact HB.out | apply below_alloc | apply pw_below_drewN | apply below_drew1 | refine below_set ?_ GE365.out) | exact HB.out))) : w.heap.size ≤ gb366)); replace HB := Aside0.mk (below_step (by repeat (first | (with_reducible first | exact HB.out | apply below_alloc | apply pw_below_drewN | apply below_drew1 | refine below_set ?_ GE365.out) | exact HB.out)) hb); have NB365_366 := Aside0.mk ((by rw [hg]; exact Nat.ne_of_lt (blk_lt (g := gb365) (o := .cells #[.slice A0_0 l0_0.length c0_0] 25 (0, 0)) BK365.out) : gb365 ≠ gb366)); have NB366_365 := Aside0.mk ((by rw [hg]; exact Nat.ne_of_gt (blk_lt (g := gb365) (o := .cells #[.slice A0_0 l0_0.length c0_0] 25 (0, 0)) BK365.out) : gb366 ≠ gb365)); replace BK365 := Aside0.mk (blk_below (g := gb365) (o := .cells #[.slice A0_0 l0_0.length c0_0] 25 (0, 0)) BK365.out hb); clear hb hbox hg) | ((with_reducible refine gate_dst (N := 4) rfl ?_); refine box_event ?hg (N := 4) ?hd (cs := #[.slice none 0 0]) (t := 25) ?hr ?_; (case hd => rfl); (case hg => rfl); (case hr => first | (go_simp; done) | (go_simp; rfl)); intro gb367 hg w7 hbox hb; have BK367 := Aside0.mk (hbox); have GW367 := Aside0.mk ((by rw [hg]; exact (below_size (by repeat (first | (with_reducible first | exact HB.out | apply below_alloc | apply pw_below_drewN | apply below_drew1 | refine below_set ?_ GE365.out | refine below_set ?_ GE366.out) | exact HB.out))) : w.heap.size ≤ gb367)); have GE367 := Aside0.mk ((by rw [hg]; exact (below_size (by repeat (first | (with_reducible first | exact HB.out | apply below_alloc | apply pw_below_drewN | apply below_drew1 | refine below_set ?_ GE365.out | refine below_set ?_ GE366.out) | exact HB.out))) : w.heap.size ≤ gb367)); replace HB := Aside0.mk (below_step (by repeat (first | (with_reducible first | exact HB.out | apply below_alloc | apply pw_below_drewN | apply below_drew1 | refine below_set ?_ GE365.out | refine below_set ?_ GE366.out) | exact HB.out)) hb); have NB365_367 := Aside0.mk ((by rw [hg]; exact Nat.ne_of_lt (blk_lt (g := gb365) (o := .cells #[.slice A0_0 l0_0.length c0_0] 25 (0, 0)) BK365.out) : gb365 ≠ gb367)); have NB367_365 := Aside0.mk ((by rw [hg]; exact Nat.ne_of_gt (blk_lt (g := gb365) (o := .cells #[.slice A0_0 l0_0.length c0_0] 25 (0, 0)) BK365.out) : gb367 ≠ gb365)); replace BK365 := Aside0.mk (blk_below (g := gb365) (o := .cells #[.slice A0_0 l0_0.length c0_0] 25 (0, 0)) BK365.out hb); have NB366_367 := Aside0.mk ((by rw [hg]; exact Nat.ne_of_lt (blk_lt (g := gb366) (o := .cells #[.slice A1_0 l1_0.length c1_0] 25 (0, 0)) BK366.out) : gb366 ≠ gb367)); have NB367_366 := Aside0.mk ((by rw [hg]; exact Nat.ne_of_gt (blk_lt (g := gb366) (o := .cells #[.slice A1_0 l1_0.length c1_0] 25 (0, 0)) BK366.out) : gb367 ≠ gb366)); replace BK366 := Aside0.mk (blk_below (g := gb366) (o := .cells #[.slice A1_0 l1_0.length c1_0] 25 (0, 0)) BK366.out hb); clear hb hbox hg; have hnb8 := NB365_366.out; have hnc8 := NB366_365.out; have hnb9 := NB365_367.out; have hnc9 := NB367_365.out; have hcz10_0 : w7.cell? ⟨gb365, 0, none⟩ = some (.slice A0_0 l0_0.length c0_0) := (blk_cell BK365.out 0).trans rfl; have hfz10_0 := blk_frozen BK365.out 0; have hnb11 := NB366_367.out; have hnc11 := NB367_366.out; have hcz12_0 : w7.cell? ⟨gb366, 0, none⟩ = some (.slice A1_0 l1_0.length c1_0) := (blk_cell BK366.out 0).trans rfl; have hfz12_0 := blk_frozen BK366.out 0) | ((with_reducible refine gate_callee (f := 37) rfl ?_); refine goesL_ (some 11) rfl rfl Try.func37 (by kernel_rfl) rfl #[.agg #[.slice A0_0 l0_0.length c0_0], .agg #[.slice A1_0 l1_0.length c1_0]] rfl (by (try simp only [List.map_toArray, List.map_cons, List.map_nil]); first | done | rfl | (simp only [List.length_drop, List.length_take]; rfl)) ?_; (with_reducible refine (nat_Cmp.calls k _ _ l0_0 _ _ l1_0 t368 _ ?side1 ?side2 ?side3 ?side4 A3.out).mono ?_); (case side1 => exact (Kd.C_below HR0_0.out HB.out)); (case side2 => exact HC0_0.out); (case side3 => exact (Kd.C_below HR1_0.out HB.out)); (case side4 => exact HC1_0.out); rintro e w13 ⟨rfl, hb⟩; refine ⟨_, rfl, ?_⟩; replace BK365 := Aside0.mk (blk_below (g := gb365) (o := .cells #[.slice A0_0 l0_0.length c0_0] 25 (0, 0)) BK365.out hb); replace BK366 := Aside0.mk (blk_below (g := gb366) (o := .cells #[.slice A1_0 l1_0.length c1_0] 25 (0, 0)) BK366.out hb); replace BK367 := Aside0.mk (blk_below (g := gb367) (o := .cells #[.slice none 0 0] 25 (0, 0)) BK367.out hb); replace HB := Aside0.mk (below_step (by repeat (first | (with_reducible first | exact HB.out | apply below_alloc | apply pw_below_drewN | apply below_drew1 | refine below_set ?_ GE365.out | refine below_set ?_ GE366.out | refine below_set ?_ GE367.out) | exact HB.out)) hb); have hcz14_0 : w13.cell? ⟨gb367, 0, none⟩ = some (.slice none 0 0) := (blk_cell BK367.out 0).trans rfl; have hfz14_0 := blk_frozen BK367.out 0))
    refine bodyPost_ret (results_ct rfl _ _ gb367 25 #[.slice none 0 0] (0, 0) _ rfl (by (with_reducible repeat (first | refine blk_drewN ?_ _ | refine blk_drew ?_ | refine blk_alloc ?_ _)); refine blk_put (cs := #[.slice none 0 0]) ?_ 0 _ rfl; (with_reducible repeat (first | refine blk_drewN ?_ _ | refine blk_drew ?_ | refine blk_alloc ?_ _)); exact BK367.out) Try.underlying25 rfl (by kernel_rfl)) rfl ?_
    exact ⟨_, rfl, by first | exact Kd.R_nil _ _ _ _ _ | exact Kd.N_nil _ _ _ _ _ | exact Kd.V_nil _ _ _ _ _ | exact Kd.Q_nil _ _ _ _ _ | exact Kd.S_nil _ _ _ _ _, by repeat (first | (with_reducible first | exact HB.out | apply below_alloc | apply pw_below_drewN | apply below_drew1 | refine below_set ?_ GE365.out | refine below_set ?_ GE366.out | refine below_set ?_ GE367.out) | exact HB.out)⟩
  rw [if_neg c4] at H
  have c4b0 : decide (t368 < 0) = false := decide_eq_false c4
  clear c4
  by_cases c15 : 0 ≤ (l0_0.length : Int)
  rotate_left
  · rw [if_neg c15] at H
    exact absurd H (by simp)

  rw [if_pos c15] at H
  have c15b0 := eq_true c15
  have c15b1 : decide (0 ≤ (l0_0.length : Int)) = true := decide_eq_true c15
  clear c15
  by_cases c16 : ((l0_0.length : Int) : Int).toNat ≤ 70368744177664
  rotate_left
  · rw [if_neg c16] at H
    exact absurd H (by simp)
  rw [if_pos c16] at H
  have c16b0 := eq_true c16
  have c16b1 : decide (((l0_0.length : Int) : Int).toNat ≤ 70368744177664) = true := decide_eq_true c16
  clear c16
  obtain ⟨y369, hy369⟩ : ∃ y_ : List Int, y_ = (List.replicate ((l0_0.length : Int) : Int).toNat 0) := ⟨_, rfl⟩
  replace H : (nat_Sub.l0 k y369 0 (y369.length : Int) 0 l0_0 l1_0) = some (r1, r2) := by first | (rw [hy369]; with_reducible exact H) | (have H2_ := (Option.bind_some _ _).symm.trans H; rw [hy369]; with_reducible exact H2_) | (have H2_ := (Option.bind_some _ _).symm.trans H; with_reducible exact H2_) | with_reducible exact H | (rw [hy369]; exact H) | exact H
  have Ny369 := Aside0.mk hy369
  clear hy369
  have H' := Aside0.mk H
  clear H
  go_enter Try.func36, Try.ntmps36
  go_wp2_with (first | ((with_reducible refine gate_dst (N := 2) rfl ?_); refine box_event ?hg (N := 2) ?hd (cs := #[.slice A0_0 l0_0.length c0_0]) (t := 25) ?hr ?_; (case hd => rfl); (case hg => rfl); (case hr => first | (go_simp; done) | (go_simp; rfl)); intro gb365 hg w17 hbox hb; have BK365 := Aside0.mk (hbox); have GW365 := Aside0.mk ((by rw [hg]; exact (below_size (by repeat (first | (with_reducible first | exact HB.out | apply below_alloc | apply pw_below_drewN | apply below_drew1) | exact HB.out))) : w.heap.size ≤ gb365)); have GE365 := Aside0.mk ((by rw [hg]; exact (below_size (by repeat (first | (with_reducible first | exact HB.out | apply below_alloc | apply pw_below_drewN | apply below_drew1) | exact HB.out))) : w.heap.size ≤ gb365)); replace HB := Aside0.mk (below_step (by repeat (first | (with_reducible first | exact HB.out | apply below_alloc | apply pw_below_drewN | apply below_drew1) | exact HB.out)) hb); clear hb hbox hg) | ((with_reducible refine gate_dst (N := 3) rfl ?_); refine box_event ?hg (N := 3) ?hd (cs := #[.slice A1_0 l1_0.length c1_0]) (t := 25) ?hr ?_; (case hd => rfl); (case hg => rfl); (case hr => first | (go_simp; done) | (go_simp; rfl)); intro gb366 hg w18 hbox hb; have BK366 := Aside0.mk (hbox); have GW366 := Aside0.mk ((by rw [hg]; exact (below_size (by repeat (first | (with_reducible first | exact HB.out | apply below_alloc | apply pw_below_drewN | apply below_drew1 | refine below_set ?_ GE365.out) | exact HB.out))) : w.heap.size ≤ gb366)); have GE366 := Aside0.mk ((by rw [hg]; exact (below_size (by repeat (first | (with_reducible first | exact HB.out | apply below_alloc | apply pw_below_drewN | apply below_drew1 | refine below_set ?_ GE365.out) | exact HB.out))) : w.heap.size ≤ gb366)); replace HB := Aside0.mk (below_step (by repeat (first | (with_reducible first | exact HB.out | apply below_alloc | apply pw_below_drewN | apply below_drew1 | refine below_set ?_ GE365.out) | exact HB.out)) hb); have NB365_366 := Aside0.mk ((by rw [hg]; exact Nat.ne_of_lt (blk_lt (g := gb365) (o := .cells #[.slice A0_0 l0_0.length c0_0] 25 (0, 0)) BK365.out) : gb365 ≠ gb366)); have NB366_365 := Aside0.mk ((by rw [hg]; exact Nat.ne_of_gt (blk_lt (g := gb365) (o := .cells #[.slice A0_0 l0_0.length c0_0] 25 (0, 0)) BK365.out) : gb366 ≠ gb365)); replace BK365 := Aside0.mk (blk_below (g := gb365) (o := .cells #[.slice A0_0 l0_0.length c0_0] 25 (0, 0)) BK365.out hb); clear hb hbox hg) | ((with_reducible refine gate_dst (N := 4) rfl ?_); refine box_event ?hg (N := 4) ?hd (cs := #[.slice none 0 0]) (t := 25) ?hr ?_; (case hd => rfl); (case hg => rfl); (case hr => first | (go_simp; done) | (go_simp; rfl)); intro gb367 hg w19 hbox hb; have BK367 := Aside0.mk (hbox); have GW367 := Aside0.mk ((by rw [hg]; exact (below_size (by repeat (first | (with_reducible first | exact HB.out | apply below_alloc | apply pw_below_drewN | apply below_drew1 | refine below_set ?_ GE365.out | refine below_set ?_ GE366.out) | exact HB.out))) : w.heap.size ≤ gb367)); have GE367 := Aside0.mk ((by rw [hg]; exact (below_size (by repeat (first | (with_reducible first | exact HB.out | apply below_alloc | apply pw_below_drewN | apply below_drew1 | refine below_set ?_ GE365.out | refine below_set ?_ GE366.out) | exact HB.out))) : w.heap.size ≤ gb367)); replace HB := Aside0.mk (below_step (by repeat (first | (with_reducible first | exact HB.out | apply below_alloc | apply pw_below_drewN | apply below_drew1 | refine below_set ?_ GE365.out | refine below_set ?_ GE366.out) | exact HB.out)) hb); have NB365_367 := Aside0.mk ((by rw [hg]; exact Nat.ne_of_lt (blk_lt (g := gb365) (o := .cells #[.slice A0_0 l0_0.length c0_0] 25 (0, 0)) BK365.out) : gb365 ≠ gb367)); have NB367_365 := Aside0.mk ((by rw [hg]; exact Nat.ne_of_gt (blk_lt (g := gb365) (o := .cells #[.slice A0_0 l0_0.length c0_0] 25 (0, 0)) BK365.out) : gb367 ≠ gb365)); replace BK365 := Aside0.mk (blk_below (g := gb365) (o := .cells #[.slice A0_0 l0_0.length c0_0] 25 (0, 0)) BK365.out hb); have NB366_367 := Aside0.mk ((by rw [hg]; exact Nat.ne_of_lt (blk_lt (g := gb366) (o := .cells #[.slice A1_0 l1_0.length c1_0] 25 (0, 0)) BK366.out) : gb366 ≠ gb367)); have NB367_366 := Aside0.mk ((by rw [hg]; exact Nat.ne_of_gt (blk_lt (g := gb366) (o := .cells #[.slice A1_0 l1_0.length c1_0] 25 (0, 0)) BK366.out) : gb367 ≠ gb366)); replace BK366 := Aside0.mk (blk_below (g := gb366) (o := .cells #[.slice A1_0 l1_0.length c1_0] 25 (0, 0)) BK366.out hb); clear hb hbox hg; have hnb20 := NB365_366.out; have hnc20 := NB366_365.out; have hnb21 := NB365_367.out; have hnc21 := NB367_365.out; have hcz22_0 : w19.cell? ⟨gb365, 0, none⟩ = some (.slice A0_0 l0_0.length c0_0) := (blk_cell BK365.out 0).trans rfl; have hfz22_0 := blk_frozen BK365.out 0; have hnb23 := NB366_367.out; have hnc23 := NB367_366.out; have hcz24_0 : w19.cell? ⟨gb366, 0, none⟩ = some (.slice A1_0 l1_0.length c1_0) := (blk_cell BK366.out 0).trans rfl; have hfz24_0 := blk_frozen BK366.out 0) | ((with_reducible refine gate_callee (f := 37) rfl ?_); refine goesL_ (some 11) rfl rfl Try.func37 (by kernel_rfl) rfl #[.agg #[.slice A0_0 l0_0.length c0_0], .agg #[.slice A1_0 l1_0.length c1_0]] rfl (by (try simp only [List.map_toArray, List.map_cons, List.map_nil]); first | done | rfl | (simp only [List.length_drop, List.length_take]; rfl)) ?_; (with_reducible refine (nat_Cmp.calls k _ _ l0_0 _ _ l1_0 t368 _ ?side1 ?side2 ?side3 ?side4 A3.out).mono ?_); (case side1 => exact (Kd.C_below HR0_0.out HB.out)); (case side2 => exact HC0_0.out); (case side3 => exact (Kd.C_below HR1_0.out HB.out)); (case side4 => exact HC1_0.out); rintro e w25 ⟨rfl, hb⟩; refine ⟨_, rfl, ?_⟩; replace BK365 := Aside0.mk (blk_below (g := gb365) (o := .cells #[.slice A0_0 l0_0.length c0_0] 25 (0, 0)) BK365.out hb); replace BK366 := Aside0.mk (blk_below (g := gb366) (o := .cells #[.slice A1_0 l1_0.length c1_0] 25 (0, 0)) BK366.out hb); replace BK367 := Aside0.mk (blk_below (g := gb367) (o := .cells #[.slice none 0 0] 25 (0, 0)) BK367.out hb); replace HB := Aside0.mk (below_step (by repeat (first | (with_reducible first | exact HB.out | apply below_alloc | apply pw_below_drewN | apply below_drew1 | refine below_set ?_ GE365.out | refine below_set ?_ GE366.out | refine below_set ?_ GE367.out) | exact HB.out)) hb); have hcz26_0 : w25.cell? ⟨gb365, 0, none⟩ = some (.slice A0_0 l0_0.length c0_0) := (blk_cell BK365.out 0).trans rfl; have hfz26_0 := blk_frozen BK365.out 0) | ((with_reducible refine gate_dst (N := 17) rfl ?_); refine Kd.R_make (Kd.int .u32) _ 23 rfl (N := 17) rfl 22 _ _ rfl (l0_0.length : Int) rfl rfl Try.underlying22 (.int .u32 0) 4 info23 rfl (by decide) (by omega) 0 (ok := fun _ => True) (okp := fun _ => True) rfl (fun _ hk => hk) trivial (of_decide_eq_true (by assumption)) (Nat.le_trans (Nat.mul_le_mul_right _ (of_decide_eq_true (by assumption) : (l0_0.length : Int).toNat ≤ 70368744177664)) (by omega)) (Below.refl _ _) (Nat.le_refl _) ?_; intro v370 w27 ho28 hb hg_ hnew_; clear hg_ hnew_; (first | rw [← Ny369.out] at ho28 | (simp only [Int.reduceToNat] at ho28; rw [← Ny369.out] at ho28)); have HO371 := Aside0.mk (Kd.R_lower ho28 (below_size (by repeat (first | (with_reducible first | exact HB.out | apply below_alloc | apply pw_below_drewN | apply below_drew1 | refine below_set ?_ GE365.out | refine below_set ?_ GE366.out | refine below_set ?_ GE367.out) | exact HB.out)))); replace BK365 := Aside0.mk (blk_below (g := gb365) (o := .cells #[.slice A0_0 l0_0.length c0_0] 25 (0, 0)) BK365.out hb); replace BK366 := Aside0.mk (blk_below (g := gb366) (o := .cells #[.slice A1_0 l1_0.length c1_0] 25 (0, 0)) BK366.out hb); replace BK367 := Aside0.mk (blk_below (g := gb367) (o := .cells #[.slice none 0 0] 25 (0, 0)) BK367.out hb); replace HB := Aside0.mk (below_step (by repeat (first | (with_reducible first | exact HB.out | apply below_alloc | apply pw_below_drewN | apply below_drew1 | refine below_set ?_ GE365.out | refine below_set ?_ GE366.out | refine below_set ?_ GE367.out) | exact HB.out)) hb); clear hb ho28; obtain ⟨Ao29, co29, eo29⟩ := Kd.R_slice HO371.out; subst eo29))
  (try simp only [Act.put, List.setIfInBounds_toArray, List.set_cons_zero, List.set_cons_succ])
  go_loopg [7, 20] k (fun kq v7 v20 w' => ∃ (x6_1 : List Int) (x7_1 : Int) (x20_1 : Int), v7 = .int .u32 x7_1 ∧ v20 = .int .i64 x20_1 ∧ Aside0 (nat_Sub.l0 kq x6_1 x7_1 (y369.length : Int) x20_1 l0_0 l1_0 = some (r1, r2)) ∧ Aside0 (kq ≤ k) ∧ Aside0 (Kd.R (Kd.int .u32) 23 w' w.heap.size (fun _ => True) (.slice Ao29 y369.length co29) x6_1) ∧ Aside0 (w'.heap[gb365]? = some (.cells #[(.slice A0_0 l0_0.length c0_0)] 25 (0, 0))) ∧ Aside0 (w'.heap[gb366]? = some (.cells #[(.slice A1_0 l1_0.length c1_0)] 25 (0, 0))) ∧ Aside0 (w'.heap[gb367]? = some (.cells #[(.slice none 0 0)] 25 (0, 0))) ∧ Aside0 (Below w.heap.size w w'))
  case atStart => exact ⟨(y369), (0), (0), rfl, rfl, H', ⟨Nat.le_refl _⟩, ⟨HO371.out⟩, ⟨BK365.out⟩, ⟨BK366.out⟩, ⟨BK367.out⟩, ⟨by repeat (first | (with_reducible first | exact HB.out | apply below_alloc | apply pw_below_drewN | apply below_drew1 | refine below_set ?_ GE365.out | refine below_set ?_ GE366.out | refine below_set ?_ GE367.out) | exact HB.out)⟩⟩
  case round =>
    clear H'
    try clear c1
    try clear c2
    try clear p2
    try clear c3
    try clear c4
    try clear c4b0
    try clear c8
    try clear c9
    try clear c11
    try clear c15
    try clear c15b0
    try clear c15b1
    try clear c16
    try clear c16b0
    try clear c16b1
    try clear c20
    try clear c21
    try clear c23
    try clear hcz10_0
    try clear hcz12_0
    try clear hcz14_0
    try clear hcz22_0
    try clear hcz24_0
    try clear hcz26_0
    try clear hfz10_0
    try clear hfz12_0
    try clear hfz14_0
    try clear hfz22_0
    try clear hfz24_0
    try clear hfz26_0
    obtain ⟨x6_1, x7_1, x20_1, rfl, rfl, HA, HK1, HO_6, BK365, BK366, BK367, HB⟩ := hrel
    have hl6_1 := (Kd.R_reads' HO_6.out).1
    rw [hl6_1] at HO_6
    (try simp only [hl6_1])
    (try simp only [hl6_1] at BK365)
    (try simp only [hl6_1] at BK366)
    (try simp only [hl6_1] at BK367)
    cases gk with
    | zero => exact absurd HA.out (by simp [nat_Sub.l0])
    | succ k1 =>
      have H := HA.out
      clear HA
      simp only [nat_Sub.l0] at H
      by_cases c30 : x20_1 < (y369.length : Int)
      rotate_left
      · rw [if_neg c30] at H
        have c30b0 : decide (x20_1 < (y369.length : Int)) = false := decide_eq_false c30
        (try simp only [hl6_1] at c30b0)
        clear c30
        replace H := Option.bind_eq_some_iff.mp H
        obtain ⟨t377, A410, H⟩ := H
        have A41 := Aside0.mk A410
        clear A410
        simp only [Option.some.injEq, Prod.mk.injEq] at H
        obtain ⟨rfl, rfl⟩ := H
        go_wp2_with (first | ((with_reducible refine gate_callee (f := 16) rfl ?_); refine goesL_ (some 39) rfl rfl Try.func16 (by kernel_rfl) rfl #[.slice Ao29 x6_1.length co29] rfl (by (try simp only [List.map_toArray, List.map_cons, List.map_nil]); first | done | rfl | (simp only [List.length_drop, List.length_take]; rfl)) ?_; (with_reducible refine (nat_Made.calls k1 _ _ x6_1 t377 _ ?side1 ?side2 A41.out).mono ?_); (case side1 => exact (Kd.R_reads' HO_6.out).2.2); (case side2 => exact (Kd.R_reads' HO_6.out).2.1); rintro e w42 ⟨v378, rfl, ho0, hb⟩; refine ⟨_, rfl, ?_⟩; have HO379 := Aside0.mk (Kd.R_lower (Kd.R_new' ho0 (Kd.R_lt HO_6.out)) (below_size (by repeat (first | (with_reducible first | exact HB.out | apply below_alloc | apply pw_below_drewN | apply below_drew1 | refine below_set ?_ GE365.out | refine below_set ?_ GE366.out | refine below_set ?_ GE367.out) | exact HB.out)))); replace HO_6 := Aside0.mk (Kd.R_elder' HO_6.out (Kd.R_base ho0) hb); replace BK365 := Aside0.mk (blk_below (g := gb365) (o := .cells #[.slice A0_0 l0_0.length c0_0] 25 (0, 0)) BK365.out hb); replace BK366 := Aside0.mk (blk_below (g := gb366) (o := .cells #[.slice A1_0 l1_0.length c1_0] 25 (0, 0)) BK366.out hb); replace BK367 := Aside0.mk (blk_below (g := gb367) (o := .cells #[.slice none 0 0] 25 (0, 0)) BK367.out hb); replace HB := Aside0.mk (below_step (by repeat (first | (with_reducible first | exact HB.out | apply below_alloc | apply pw_below_drewN | apply below_drew1 | refine below_set ?_ GE365.out | refine below_set ?_ GE366.out | refine below_set ?_ GE367.out) | exact HB.out)) hb); obtain ⟨Ao43, co43, eo43⟩ := Kd.R_slice HO379.out; subst eo43; have hnb44 := NB367_365.out; have hnc44 := NB365_367.out; have hnb45 := NB367_366.out; have hnc45 := NB366_367.out; have hcz46_0 : w42.cell? ⟨gb367, 0, none⟩ = some (.slice none 0 0) := (blk_cell BK367.out 0).trans rfl; have hfz46_0 := blk_frozen BK367.out 0))
        refine bodyPost_ret (results_ct rfl _ _ gb367 25 #[.slice Ao43 t377.length co43] (0, 0) _ rfl (by (with_reducible repeat (first | refine blk_drewN ?_ _ | refine blk_drew ?_ | refine blk_alloc ?_ _)); refine blk_put (cs := #[.slice none 0 0]) ?_ 0 _ rfl; (with_reducible repeat (first | refine blk_drewN ?_ _ | refine blk_drew ?_ | refine blk_alloc ?_ _)); exact BK367.out) Try.underlying25 rfl (by kernel_rfl)) rfl ?_
        exact ⟨_, rfl, by exact Kd.R_mono (Kd.R_far (p := ⟨gb367, 0, none⟩) (Kd.R_types HO379.out BK367.out (by decide)) (fun _ hk => hk.2) (.slice Ao43 t377.length co43)) (fun _ hk => trivial), by repeat (first | (with_reducible first | exact HB.out | apply below_alloc | apply pw_below_drewN | apply below_drew1 | refine below_set ?_ GE365.out | refine below_set ?_ GE366.out | refine below_set ?_ GE367.out) | exact HB.out)⟩
      rw [if_pos c30] at H
      have c30b0 : decide (x20_1 < (y369.length : Int)) = true := decide_eq_true c30
      (try simp only [hl6_1] at c30b0)
      clear c30
      replace H := Option.bind_eq_some_iff.mp H
      obtain ⟨t372, A310, H⟩ := H
      have A31 := Aside0.mk A310
      clear A310
      replace H := Option.bind_eq_some_iff.mp H
      obtain ⟨t373, A320, H⟩ := H
      have A32 := Aside0.mk A320
      clear A320
      replace H := Option.bind_eq_some_iff.mp H
      obtain ⟨⟨t374, t375⟩, A330, H⟩ := H
      have A33 := Aside0.mk A330
      clear A330
      by_cases c34 : 0 ≤ x20_1
      rotate_left
      · rw [if_neg c34] at H
        exact absurd H (by simp)
      rw [if_pos c34] at H
      have c34b0 : decide (0 ≤ x20_1) = true := decide_eq_true c34
      (try simp only [hl6_1] at c34b0)
      clear c34
      by_cases c35 : x20_1 < (x6_1.length : Int)
      rotate_left
      · rw [if_neg c35] at H
        exact absurd H (by simp)
      rw [if_pos c35] at H
      have c35b0 : decide (x20_1 < (x6_1.length : Int)) = true := decide_eq_true c35
      (try simp only [hl6_1] at c35b0)
      clear c35
      obtain ⟨y376, hy376⟩ : ∃ y_ : List Int, y_ = (x6_1.set (x20_1 : Int).toNat t374) := ⟨_, rfl⟩
      replace H : (nat_Sub.l0 k1 y376 t375 (y369.length : Int) (wrap64 (x20_1 + 1)) l0_0 l1_0) = some (r1, r2) := by first | (rw [hy376]; with_reducible exact H) | (have H2_ := (Option.bind_some _ _).symm.trans H; rw [hy376]; with_reducible exact H2_) | (have H2_ := (Option.bind_some _ _).symm.trans H; with_reducible exact H2_) | with_reducible exact H | (rw [hy376]; exact H) | exact H
      have Ny376 := Aside0.mk hy376
      clear hy376
      have H' := Aside0.mk H
      clear H
      try go_wp2
      replace HO_6 := Aside0.mk (Kd.R_drew HO_6.out)
      replace BK365 := Aside0.mk (blk_drew BK365.out)
      replace BK366 := Aside0.mk (blk_drew BK366.out)
      replace BK367 := Aside0.mk (blk_drew BK367.out)
      replace HB := Aside0.mk (below_drew1 HB.out)
      refine start_ (n := 16) (S := fun w' => w'.cell? ⟨gb365, 0, none⟩ = some (.slice A0_0 l0_0.length c0_0) ∧ w'.cell? ⟨gb366, 0, none⟩ = some (.slice A1_0 l1_0.length c1_0)) (ds := [14]) #[false, false, false, false, false, false, false, false, false, false, false, false, false, false, false, false] (by kernel_rfl) rfl rfl ⟨(blk_cell BK365.out 0).trans rfl, (blk_cell BK366.out 0).trans rfl⟩ (fun hHeld => ?_); refine with_tabW nat_Sub.tab8 nat_Sub.bits8 (fun HT_ HW_ => ?_)
      generalize wr.drew = w37 at HO_6 BK365 BK366 BK367 HB hHeld ⊢
      refine pure_ (i := 0) (N := some 24) (v := ?_) (a' := ?_) #[true, false, false, false, false, false, false, false, false, false, false, false, false, false, false, false] rfl rfl (any_of HT_.out (by kernel_rfl)) (fun _ _ _ h => h) (Or.inl ⟨by rfl, ?_⟩) ?_ ?_
      rotate_left
      · intro w'
        go_simp
        with_reducible rfl
      rotate_left
      · simp only [Act.put, List.setIfInBounds_toArray, List.set_cons_zero, List.set_cons_succ, i64_w, i32_w]
        rfl
      refine pure_ (i := 1) (N := some 25) (v := ?_) (a' := ?_) #[true, true, false, false, false, false, false, false, false, false, false, false, false, false, false, false] rfl rfl (any_of HT_.out (by kernel_rfl)) (fun _ _ _ h => h) (Or.inl ⟨by rfl, ?_⟩) ?_ ?_
      rotate_left
      · intro w'
        go_simp
        with_reducible rfl
      rotate_left
      · simp only [Act.put, List.setIfInBounds_toArray, List.set_cons_zero, List.set_cons_succ, i64_w, i32_w]
        rfl
      refine pure_ (i := 3) (N := some 27) (v := ?_) (a' := ?_) #[true, true, false, true, false, false, false, false, false, false, false, false, false, false, false, false] rfl rfl (any_of HT_.out (by kernel_rfl)) (fun _ _ _ h => h) (Or.inl ⟨by rfl, ?_⟩) ?_ ?_
      rotate_left
      · intro w'
        go_simp
        with_reducible rfl
      rotate_left
      · simp only [Act.put, List.setIfInBounds_toArray, List.set_cons_zero, List.set_cons_succ, i64_w, i32_w]
        rfl
      refine pure_ (i := 6) (N := some 30) (v := ?_) (a' := ?_) #[true, true, false, true, false, false, true, false, false, false, false, false, false, false, false, false] rfl rfl (any_of HT_.out (by kernel_rfl)) (fun _ _ _ h => h) (Or.inl ⟨by rfl, ?_⟩) ?_ ?_
      rotate_left
      · intro w'
        go_simp
        with_reducible rfl
      rotate_left
      · simp only [Act.put, List.setIfInBounds_toArray, List.set_cons_zero, List.set_cons_succ, i64_w, i32_w]
        rfl
      refine pure_ (i := 8) (N := some 32) (v := ?_) (a' := ?_) #[true, true, false, true, false, false, true, false, true, false, false, false, false, false, false, false] rfl rfl (any_of HT_.out (by kernel_rfl)) (fun _ _ _ h => h) (Or.inl ⟨by rfl, ?_⟩) ?_ ?_
      rotate_left
      · intro w'
        go_simp
        with_reducible rfl
      rotate_left
      · simp only [Act.put, List.setIfInBounds_toArray, List.set_cons_zero, List.set_cons_succ, i64_w, i32_w]
        rfl
      refine take_ (i := 2) (N := some 26) (v := ?_) (a' := ?_) #[true, true, true, true, false, false, true, false, true, false, false, false, false, false, false, false] rfl rfl (take_ofW HT_.out HW_.out (by kernel_rfl)) (fun _ _ _ h => h) (Or.inl ⟨by rfl, ?_⟩) hHeld ?_ ?_
      rotate_left
      · rintro w' ⟨s0, s1⟩
        go_simp
        with_reducible rfl
      rotate_left
      · simp only [Act.put, List.setIfInBounds_toArray, List.set_cons_zero, List.set_cons_succ, i64_w, i32_w]
        rfl
      refine take_ (i := 5) (N := some 29) (v := ?_) (a' := ?_) #[true, true, true, true, false, true, true, false, true, false, false, false, false, false, false, false] rfl rfl (take_ofW HT_.out HW_.out (by kernel_rfl)) (fun _ _ _ h => h) (Or.inl ⟨by rfl, ?_⟩) hHeld ?_ ?_
      rotate_left
      · rintro w' ⟨s0, s1⟩
        go_simp
        with_reducible rfl
      rotate_left
      · simp only [Act.put, List.setIfInBounds_toArray, List.set_cons_zero, List.set_cons_succ, i64_w, i32_w]
        rfl
      refine one_ (i := 4) (N := some 28) #[true, true, true, true, true, true, true, false, true, false, false, false, false, false, false, false] rfl rfl (one_of HT_.out (by kernel_rfl)) (by decide) (fun K hK => ?_)
      refine goes_ Try.func53 (by kernel_rfl) rfl #[.agg #[.slice A0_0 l0_0.length c0_0], .int .i64 x20_1] (by rfl) rfl rfl (by (try simp only [List.map_toArray, List.map_cons, List.map_nil]); first | done | rfl | (simp only [List.length_drop, List.length_take]; rfl)) ?_
      with_reducible refine (nat_Nat_at.calls _ _ l0_0 x20_1 t372 _ ?side1 ?side2 A31.out).mono ?_
      (case side1 => exact (Kd.C_below HR0_0.out HB.out))
      (case side2 => exact HC0_0.out)
      rintro e w38 ⟨rfl, hb⟩
      refine ⟨_, rfl, ?_⟩
      replace HO_6 := Aside0.mk (Kd.R_below HO_6.out hb)
      replace BK365 := Aside0.mk (blk_below (g := gb365) (o := .cells #[.slice A0_0 l0_0.length c0_0] 25 (0, 0)) BK365.out hb)
      replace BK366 := Aside0.mk (blk_below (g := gb366) (o := .cells #[.slice A1_0 l1_0.length c1_0] 25 (0, 0)) BK366.out hb)
      replace BK367 := Aside0.mk (blk_below (g := gb367) (o := .cells #[.slice none 0 0] 25 (0, 0)) BK367.out hb)
      replace HB := Aside0.mk (below_step (by repeat (first | (with_reducible first | exact HB.out | apply below_alloc | apply pw_below_drewN | apply below_drew1 | refine below_set ?_ GE365.out | refine below_set ?_ GE366.out | refine below_set ?_ GE367.out) | exact HB.out)) hb)
      (try clear hb)
      (try clear hb2)
      (try clear hk)
      (try clear hi)
      refine hK.out _ _ ⟨(blk_cell BK365.out 0).trans rfl, (blk_cell BK366.out 0).trans rfl⟩ (fun hHeld => ?_)
      clear hK K
      refine norm_ (a' := ?_) ?_ ?_
      rotate_left
      · show Act.put _ (some 28) _ = _
        simp only [Act.put, List.setIfInBounds_toArray, List.set_cons_zero, List.set_cons_succ, i64_w, i32_w]
        rfl
      refine one_ (i := 7) (N := some 31) #[true, true, true, true, true, true, true, true, true, false, false, false, false, false, false, false] rfl rfl (one_of HT_.out (by kernel_rfl)) (by decide) (fun K hK => ?_)
      refine goes_ Try.func53 (by kernel_rfl) rfl #[.agg #[.slice A1_0 l1_0.length c1_0], .int .i64 x20_1] (by rfl) rfl rfl (by (try simp only [List.map_toArray, List.map_cons, List.map_nil]); first | done | rfl | (simp only [List.length_drop, List.length_take]; rfl)) ?_
      with_reducible refine (nat_Nat_at.calls _ _ l1_0 x20_1 t373 _ ?side1 ?side2 A32.out).mono ?_
      (case side1 => exact (Kd.C_below HR1_0.out HB.out))
      (case side2 => exact HC1_0.out)
      rintro e w39 ⟨rfl, hb⟩
      refine ⟨_, rfl, ?_⟩
      replace HO_6 := Aside0.mk (Kd.R_below HO_6.out hb)
      replace BK365 := Aside0.mk (blk_below (g := gb365) (o := .cells #[.slice A0_0 l0_0.length c0_0] 25 (0, 0)) BK365.out hb)
      replace BK366 := Aside0.mk (blk_below (g := gb366) (o := .cells #[.slice A1_0 l1_0.length c1_0] 25 (0, 0)) BK366.out hb)
      replace BK367 := Aside0.mk (blk_below (g := gb367) (o := .cells #[.slice none 0 0] 25 (0, 0)) BK367.out hb)
      replace HB := Aside0.mk (below_step (by repeat (first | (with_reducible first | exact HB.out | apply below_alloc | apply pw_below_drewN | apply below_drew1 | refine below_set ?_ GE365.out | refine below_set ?_ GE366.out | refine below_set ?_ GE367.out) | exact HB.out)) hb)
      (try clear hb)
      (try clear hb2)
      (try clear hk)
      (try clear hi)
      refine hK.out _ _ ⟨(blk_cell BK365.out 0).trans rfl, (blk_cell BK366.out 0).trans rfl⟩ (fun hHeld => ?_)
      clear hK K
      refine norm_ (a' := ?_) ?_ ?_
      rotate_left
      · show Act.put _ (some 31) _ = _
        simp only [Act.put, List.setIfInBounds_toArray, List.set_cons_zero, List.set_cons_succ, i64_w, i32_w]
        rfl
      refine one_ (i := 9) (N := some 33) #[true, true, true, true, true, true, true, true, true, true, false, false, false, false, false, false] rfl rfl (one_of HT_.out (by kernel_rfl)) (by decide) (fun K hK => ?_)
      refine goes_ Try.func52 (by kernel_rfl) rfl #[.int .u32 t372, .int .u32 t373, .int .u32 x7_1] (by rfl) rfl rfl (by (try simp only [List.map_toArray, List.map_cons, List.map_nil]); first | done | rfl | (simp only [List.length_drop, List.length_take]; rfl)) ?_
      with_reducible refine (bits_Sub32.calls t372 t373 x7_1 t374 t375 _ A33.out).mono ?_
      rintro e w' ⟨rfl, ⟨nd, rfl⟩⟩
      refine ⟨_, rfl, ?_⟩
      have p36 : 0 ≤ (x20_1 : Int) := of_decide_eq_true (by assumption)
      have q36 : (x20_1 : Int) < ((x6_1.length : Int) : Int) := of_decide_eq_true (by assumption)
      obtain ⟨go36, co36, eo36, gb36, gl36, cl36, HG36⟩ := Kd.R_form HO_6.out (by omega)
      (first | cases eo36 | (injection eo36 with ea_ en_ ec_; (first | subst ea_ | (injection ea_ with ea_; subst ea_)); subst ec_; clear en_))
      have GB36 := Aside0.mk gb36
      have GG36 := Aside0.mk HG36
      clear gb36 gl36 HG36
      obtain ⟨hx36_0, hf36_0⟩ := Kd.R_celln 0 HO_6.out (x20_1 : Int) p36 q36
      (try simp only [Go.IntWalk.toNatUp] at hx36_0 hf36_0)
      replace p36 := eq_true p36
      replace q36 := eq_true q36
      have HP40 := Kd.R_putn HO_6.out (x20_1 : Int) t374
      rw [← Ny376.out] at HP40
      have HQ40 := Aside0.mk HP40
      clear HP40
      refine hK.out _ _ ⟨(blk_cell BK365.out 0).trans rfl, (blk_cell BK366.out 0).trans rfl⟩ (fun hHeld => ?_)
      clear hK K
      refine norm_ (a' := ?_) ?_ ?_
      rotate_left
      · show Act.put _ (some 33) _ = _
        simp only [Act.put, List.setIfInBounds_toArray, List.set_cons_zero, List.set_cons_succ, i64_w, i32_w]
        rfl
      refine pure_ (i := 10) (N := some 23) (v := ?_) (a' := ?_) #[true, true, true, true, true, true, true, true, true, true, true, false, false, false, false, false] rfl rfl (any_of HT_.out (by kernel_rfl)) (fun _ _ _ h => h) (Or.inl ⟨by rfl, ?_⟩) ?_ ?_
      rotate_left
      · intro w'
        go_simp
        with_reducible rfl
      rotate_left
      · simp only [Act.put, List.setIfInBounds_toArray, List.set_cons_zero, List.set_cons_succ, i64_w, i32_w]
        rfl
      refine pure_ (i := 11) (N := some 34) (v := ?_) (a' := ?_) #[true, true, true, true, true, true, true, true, true, true, true, true, false, false, false, false] rfl rfl (any_of HT_.out (by kernel_rfl)) (fun _ _ _ h => h) (Or.inl ⟨by rfl, ?_⟩) ?_ ?_
      rotate_left
      · intro w'
        go_simp
        with_reducible rfl
      rotate_left
      · simp only [Act.put, List.setIfInBounds_toArray, List.set_cons_zero, List.set_cons_succ, i64_w, i32_w]
        rfl
      refine pure_ (i := 12) (N := some 35) (v := ?_) (a' := ?_) #[true, true, true, true, true, true, true, true, true, true, true, true, true, false, false, false] rfl rfl (any_of HT_.out (by kernel_rfl)) (fun _ _ _ h => h) (Or.inl ⟨by rfl, ?_⟩) ?_ ?_
      rotate_left
      · intro w'
        go_simp
        with_reducible rfl
      rotate_left
      · simp only [Act.put, List.setIfInBounds_toArray, List.set_cons_zero, List.set_cons_succ, i64_w, i32_w]
        rfl
      refine pure_ (i := 13) (N := some 36) (v := ?_) (a' := ?_) #[true, true, true, true, true, true, true, true, true, true, true, true, true, true, false, false] rfl rfl (any_of HT_.out (by kernel_rfl)) (fun _ _ _ h => h) (Or.inl ⟨by rfl, ?_⟩) ?_ ?_
      rotate_left
      · intro w'
        go_simp
        with_reducible rfl
      rotate_left
      · simp only [Act.put, List.setIfInBounds_toArray, List.set_cons_zero, List.set_cons_succ, i64_w, i32_w]
        rfl
      refine last_ (i := 14) (N := none) #[true, true, true, true, true, true, true, true, true, true, true, true, true, true, true, false] rfl rfl (one_of HT_.out (by kernel_rfl)) (by decide) (fun K hK => ?_)
      refine skip_ (w1 := ?_) (by rfl) rfl ?_ ?_
      rotate_left
      · go_simp
        rfl
      refine hK.out _ _ ?_
      clear hK K
      refine pure_ (i := 15) (N := some 7) (v := ?_) (a' := ?_) #[true, true, true, true, true, true, true, true, true, true, true, true, true, true, true, true] rfl rfl (any_of HT_.out (by kernel_rfl)) (fun _ _ _ h => h) (Or.inl ⟨by rfl, ?_⟩) ?_ ?_
      rotate_left
      · intro w'
        go_simp
        with_reducible rfl
      rotate_left
      · simp only [Act.put, List.setIfInBounds_toArray, List.set_cons_zero, List.set_cons_succ, i64_w, i32_w]
        rfl
      refine done_ (done_of HT_.out (by kernel_rfl)) ?_
      try go_wp2
      (try simp only [← hl6_1])
      go_roundg k1
      case measure => have := HK1.out; omega
      case rel => exact ⟨(y376), (t375), (wrap64 (x20_1 + 1)), rfl, rfl, H', ⟨by have := HK1.out; omega⟩, ⟨by (try simp only [hl6_1]); (with_reducible repeat (first | apply Kd.R_alloc | apply Kd.R_drewN | apply Kd.R_drew)); exact HQ40.out⟩, ⟨by (try simp only [hl6_1]); (with_reducible repeat (first | refine blk_drewN ?_ _ | refine blk_drew ?_ | refine blk_alloc ?_ _)); refine blk_far ?_ (by have h_ := Kd.R_ne HO_6.out BK365.out (by decide); intro e_; exact h_ (by rw [e_]; rfl)) _; (with_reducible repeat (first | refine blk_drewN ?_ _ | refine blk_drew ?_ | refine blk_alloc ?_ _)); exact BK365.out⟩, ⟨by (try simp only [hl6_1]); (with_reducible repeat (first | refine blk_drewN ?_ _ | refine blk_drew ?_ | refine blk_alloc ?_ _)); refine blk_far ?_ (by have h_ := Kd.R_ne HO_6.out BK366.out (by decide); intro e_; exact h_ (by rw [e_]; rfl)) _; (with_reducible repeat (first | refine blk_drewN ?_ _ | refine blk_drew ?_ | refine blk_alloc ?_ _)); exact BK366.out⟩, ⟨by (try simp only [hl6_1]); (with_reducible repeat (first | refine blk_drewN ?_ _ | refine blk_drew ?_ | refine blk_alloc ?_ _)); refine blk_far ?_ (by have h_ := Kd.R_ne HO_6.out BK367.out (by decide); intro e_; exact h_ (by rw [e_]; rfl)) _; (with_reducible repeat (first | refine blk_drewN ?_ _ | refine blk_drew ?_ | refine blk_alloc ?_ _)); exact BK367.out⟩, ⟨by repeat (first | (with_reducible first | exact HB.out | apply below_alloc | apply pw_below_drewN | apply below_drew1 | refine below_set ?_ GB36.out | refine below_set ?_ GE365.out | refine below_set ?_ GE366.out | refine below_set ?_ GE367.out) | exact HB.out)⟩⟩
end Go.Proofs.Ytcepdndhkidehaa.PA
end
section
namespace Go.Proofs.Ytcepdndhkidehaa.PA
open Go.RowKit Go.Proofs.YtcepdndhkidehaaW.PrintWords Go.Proofs.YtcepdndhkidehaaW.PrintLast Go.Proofs.YtcepdndhkidehaaW.PrintMore
attribute [local go_sem] max2_int min2_int max_two min_two max_three min_three max_four min_four   -- for this text's walks alone
set_option linter.unusedVariables false
set_option linter.unusedSimpArgs false

/-! ### numeraryref02_Mul: function 19 -/
def numeraryref02_Mul.l0 : Nat → List Int → List Int → List Int → Int → Option (List Int)
  | 0, _, _, _, _ => none
  | k + 1, x0, x1, x5, x6 => if x6 ≥ 0 then ((numeraryref02_Times.f k x5 10).bind fun t162 => (if 0 ≤ x6 then (if x6 < (x1.length : Int) then ((numeraryref02_Times.f k x0 (rd x1 x6)).bind fun t166 => ((numeraryref02_Add.f k t162 t166).bind fun t169 => (numeraryref02_Mul.l0 k x0 x1 t169 (wrap64 (x6 - 1))))) else (none)) else (none))) else (some x5)
def numeraryref02_Mul.f (k : Nat) (l0 : List Int) (l1 : List Int) : Option (List Int) := numeraryref02_Mul.l0 k l0 l1 ([] : List Int) (wrap64 ((l1.length : Int) - 1))
theorem numeraryref02_Mul.mono_l : ∀ k, (∀ y0 y1 y2 y3, LeO (numeraryref02_Mul.l0 k y0 y1 y2 y3) (numeraryref02_Mul.l0 (k + 1) y0 y1 y2 y3))
  | 0 => fun _ _ _ _ r h => by simp [numeraryref02_Mul.l0] at h
  | k + 1 => by
    have ih0 := numeraryref02_Mul.mono_l k
    intro y0 y1 y2 y3
    unfold numeraryref02_Mul.l0
    repeat' first
    | (with_reducible exact ih0 _ _ _ _)
    | (with_reducible exact numeraryref02_Add.mono _ _ _)
    | (with_reducible exact numeraryref02_Times.mono _ _ _)
    | (with_reducible exact LeO.refl _)
    | (with_reducible exact LeO.none _)
    | (with_reducible refine LeO.ite ?_ ?_)
    | (with_reducible refine LeO.bind ?_ (fun _ => ?_))
    | exact ih0 _ _ _ _
    | exact numeraryref02_Add.mono _ _ _
    | exact numeraryref02_Times.mono _ _ _
    | exact LeO.none _
    | refine LeO.ite ?_ ?_
    | refine LeO.bind ?_ (fun _ => ?_)
theorem numeraryref02_Mul.mono : ∀ a0 a1 k, LeO (numeraryref02_Mul.f k a0 a1) (numeraryref02_Mul.f (k + 1) a0 a1) := by
  intro a0 a1 k
  have ih0 := numeraryref02_Mul.mono_l k
  unfold numeraryref02_Mul.f
  repeat' first
      | (with_reducible exact ih0 _ _ _ _)
      | (with_reducible exact numeraryref02_Add.mono _ _ _)
      | (with_reducible exact numeraryref02_Times.mono _ _ _)
      | (with_reducible exact LeO.refl _)
      | (with_reducible exact LeO.none _)
      | (with_reducible refine LeO.ite ?_ ?_)
      | (with_reducible refine LeO.bind ?_ (fun _ => ?_))
set_option maxHeartbeats 8000000 in
set_option maxRecDepth 100000 in
theorem numeraryref02_Mul.calls (k : Nat) (A0 : Option Addr) (c0 : Nat) (l0 : List Int) (A1 : Option Addr) (c1 : Nat) (l1 : List Int) (r : List Int) (w : World) (hr0 : Kd.C (Kd.int .i64) w A0 l0.length l0) (hc0 : l0.length ≤ c0) (hr1 : Kd.C (Kd.int .i64) w A1 l1.length l1) (hc1 : l1.length ≤ c1) (h : numeraryref02_Mul.f k l0 l1 = some r) :
    Calls Try.prog 19 #[.slice A0 l0.length c0, .slice A1 l1.length c1] w fun e w' => ∃ v0_ : Value, e = .returned (v0_) ∧ Kd.R (Kd.int .i64) 3 w' w.heap.size (fun _ => True) v0_ r ∧ Below w.heap.size w w' := by
  have HR0 := Aside0.mk hr0
  have HC0 := Aside0.mk hc0
  clear hr0 hc0
  have HR1 := Aside0.mk hr1
  have HC1 := Aside0.mk hc1
  clear hr1 hc1
  have HB := Aside0.mk (Below.refl w.heap.size w)
  have H : (numeraryref02_Mul.l0 k l0 l1 ([] : List Int) (wrap64 ((l1.length : Int) - 1))) = some r := h
  clear h
  have H' := Aside0.mk H
  clear H
  go_enter Try.func19, Try.ntmps19
  go_wp2
  (try simp only [Act.put, List.setIfInBounds_toArray, List.set_cons_zero, List.set_cons_succ])
  go_loopg [5, 6] k (fun kq v5 v6 w' => ∃ (x5_1 : List Int) (x6_1 : Int), v6 = .int .i64 x6_1 ∧ Aside0 (numeraryref02_Mul.l0 kq l0 l1 x5_1 x6_1 = some r) ∧ Aside0 (kq ≤ k) ∧ Aside0 (Kd.R (Kd.int .i64) 3 w' w.heap.size (fun _ => True) v5 x5_1) ∧ Aside0 (Below w.heap.size w w'))
  case atStart => exact ⟨(([] : List Int)), (wrap64 ((l1.length : Int) - 1)), rfl, H', ⟨Nat.le_refl _⟩, ⟨by first | exact Kd.R_nil _ _ _ _ _ | exact Kd.N_nil _ _ _ _ _ | exact Kd.V_nil _ _ _ _ _ | exact Kd.Q_nil _ _ _ _ _ | exact Kd.S_nil _ _ _ _ _⟩, ⟨by repeat (first | (with_reducible first | exact HB.out | apply below_alloc | apply pw_below_drewN | apply below_drew1) | exact HB.out)⟩⟩
  case round =>
    clear H'
    try clear c1
    try clear p2
    obtain ⟨x5_1, x6_1, rfl, HA, HK1, HO_5, HB⟩ := hrel
    cases gk with
    | zero => exact absurd HA.out (by simp [numeraryref02_Mul.l0])
    | succ k1 =>
      have H := HA.out
      clear HA
      simp only [numeraryref02_Mul.l0] at H
      by_cases c3 : x6_1 ≥ 0
      rotate_left
      · rw [if_neg c3] at H
        have c3b0 : decide (0 ≤ x6_1) = false := decide_eq_false c3
        clear c3
        obtain rfl := Option.some.inj H
        go_wp2
        go_ret
        exact ⟨_, rfl, by (with_reducible repeat (first | apply Kd.R_alloc | apply Kd.R_drewN | apply Kd.R_drew)); exact HO_5.out, by repeat (first | (with_reducible first | exact HB.out | apply below_alloc | apply pw_below_drewN | apply below_drew1) | exact HB.out)⟩

      rw [if_pos c3] at H
      have c3b0 : decide (0 ≤ x6_1) = true := decide_eq_true c3
      clear c3
      replace H := Option.bind_eq_some_iff.mp H
      obtain ⟨t162, A40, H⟩ := H
      have A4 := Aside0.mk A40
      clear A40
      by_cases c5 : 0 ≤ x6_1
      rotate_left
      · rw [if_neg c5] at H
        exact absurd H (by simp)
      rw [if_pos c5] at H
      have c5b0 : decide (0 ≤ x6_1) = true := decide_eq_true c5
      clear c5
      by_cases c6 : x6_1 < (l1.length : Int)
      rotate_left
      · rw [if_neg c6] at H
        exact absurd H (by simp)
      rw [if_pos c6] at H
      have c6b0 : decide (x6_1 < (l1.length : Int)) = true := decide_eq_true c6
      clear c6
      replace H := Option.bind_eq_some_iff.mp H
      obtain ⟨t166, A70, H⟩ := H
      have A7 := Aside0.mk A70
      clear A70
      replace H := Option.bind_eq_some_iff.mp H
      obtain ⟨t169, A80, H⟩ := H
      have A8 := Aside0.mk A80
      clear A80
      have H' := Aside0.mk H
      clear H
      obtain ⟨Ao9, co9, eo9⟩ := Kd.R_slice HO_5.out
      subst eo9
      go_wp2_with (first | ((with_reducible refine gate_callee (f := 20) rfl ?_); refine goesL_ (some 16) rfl rfl Try.func20 (by kernel_rfl) rfl #[.slice Ao9 x5_1.length co9, .int .i64 10] rfl (by (try simp only [List.map_toArray, List.map_cons, List.map_nil]); first | done | rfl | (simp only [List.length_drop, List.length_take]; rfl)) ?_; (with_reducible refine (numeraryref02_Times.calls k1 _ _ x5_1 10 t162 _ ?side1 ?side2 A4.out).mono ?_); (case side1 => repeat (first | exact (Kd.R_reads' HO_5.out).2.2 | (with_reducible refine Kd.C_alloc ?_ _) | (with_reducible refine Kd.C_drewN ?_ _) | (with_reducible refine Kd.C_drew ?_))); (case side2 => exact (Kd.R_reads' HO_5.out).2.1); rintro e w10 ⟨v163, rfl, ho0, hb⟩; refine ⟨_, rfl, ?_⟩; have HO164 := Aside0.mk (Kd.R_lower (Kd.R_new' ho0 (Kd.R_lt (by (with_reducible repeat (first | apply Kd.R_alloc | apply Kd.R_drewN | apply Kd.R_drew)); exact HO_5.out))) (below_size (by repeat (first | (with_reducible first | exact HB.out | apply below_alloc | apply pw_below_drewN | apply below_drew1) | exact HB.out)))); replace HO_5 := Aside0.mk (Kd.R_elder' (by (with_reducible repeat (first | apply Kd.R_alloc | apply Kd.R_drewN | apply Kd.R_drew)); exact HO_5.out) (Kd.R_base ho0) hb); replace HB := Aside0.mk (below_step (by repeat (first | (with_reducible first | exact HB.out | apply below_alloc | apply pw_below_drewN | apply below_drew1) | exact HB.out)) hb); have p165 : 0 ≤ (x6_1 : Int) := of_decide_eq_true (by assumption); have q165 : x6_1 < (l1.length : Int) := of_decide_eq_true (by assumption); obtain ⟨ad165, e165, hx165_0⟩ := Kd.at_int HR1.out x6_1 p165 q165; cases e165; replace hx165_0 := (HB.out.cell (World.block_lt_of_cell? w _ hx165_0)).trans hx165_0; replace p165 := eq_true p165; replace q165 := eq_true q165) | ((with_reducible refine gate_callee (f := 20) rfl ?_); refine goesL_ (some 22) rfl rfl Try.func20 (by kernel_rfl) rfl #[.slice A0 l0.length c0, .int .i64 (rd l1 x6_1)] rfl (by (try simp only [List.map_toArray, List.map_cons, List.map_nil]); first | done | rfl | (simp only [List.length_drop, List.length_take]; rfl)) ?_; (with_reducible refine (numeraryref02_Times.calls k1 _ _ l0 (rd l1 x6_1) t166 _ ?side1 ?side2 A7.out).mono ?_); (case side1 => repeat (first | exact (Kd.C_below HR0.out HB.out) | (with_reducible refine Kd.C_alloc ?_ _) | (with_reducible refine Kd.C_drewN ?_ _) | (with_reducible refine Kd.C_drew ?_))); (case side2 => exact HC0.out); rintro e w11 ⟨v167, rfl, ho0, hb⟩; refine ⟨_, rfl, ?_⟩; have HO168 := Aside0.mk (Kd.R_lower (Kd.R_new' (Kd.R_new' ho0 (Kd.R_lt (by (with_reducible repeat (first | apply Kd.R_alloc | apply Kd.R_drewN | apply Kd.R_drew)); exact HO_5.out))) (Kd.R_lt (by (with_reducible repeat (first | apply Kd.R_alloc | apply Kd.R_drewN | apply Kd.R_drew)); exact HO164.out))) (below_size (by repeat (first | (with_reducible first | exact HB.out | apply below_alloc | apply pw_below_drewN | apply below_drew1) | exact HB.out)))); replace HO_5 := Aside0.mk (Kd.R_elder' (by (with_reducible repeat (first | apply Kd.R_alloc | apply Kd.R_drewN | apply Kd.R_drew)); exact HO_5.out) (Kd.R_base ho0) hb); replace HO164 := Aside0.mk (Kd.R_elder' (by (with_reducible repeat (first | apply Kd.R_alloc | apply Kd.R_drewN | apply Kd.R_drew)); exact HO164.out) (Kd.R_base ho0) hb); replace HB := Aside0.mk (below_step (by repeat (first | (with_reducible first | exact HB.out | apply below_alloc | apply pw_below_drewN | apply below_drew1) | exact HB.out)) hb); obtain ⟨Ao12, co12, eo12⟩ := Kd.R_slice HO164.out; subst eo12; obtain ⟨Ao13, co13, eo13⟩ := Kd.R_slice HO168.out; subst eo13) | ((with_reducible refine gate_callee (f := 39) rfl ?_); refine goesL_ (some 25) rfl rfl Try.func39 (by kernel_rfl) rfl #[.slice Ao12 t162.length co12, .slice Ao13 t166.length co13] rfl (by (try simp only [List.map_toArray, List.map_cons, List.map_nil]); first | done | rfl | (simp only [List.length_drop, List.length_take]; rfl)) ?_; (with_reducible refine (numeraryref02_Add.calls k1 _ _ t162 _ _ t166 t169 _ ?side1 ?side2 ?side3 ?side4 A8.out).mono ?_); (case side1 => repeat (first | exact (Kd.R_reads' HO164.out).2.2 | (with_reducible refine Kd.C_alloc ?_ _) | (with_reducible refine Kd.C_drewN ?_ _) | (with_reducible refine Kd.C_drew ?_))); (case side2 => exact (Kd.R_reads' HO164.out).2.1); (case side3 => repeat (first | exact (Kd.R_reads' HO168.out).2.2 | (with_reducible refine Kd.C_alloc ?_ _) | (with_reducible refine Kd.C_drewN ?_ _) | (with_reducible refine Kd.C_drew ?_))); (case side4 => exact (Kd.R_reads' HO168.out).2.1); rintro e w14 ⟨v170, rfl, ho0, hb⟩; refine ⟨_, rfl, ?_⟩; have HO171 := Aside0.mk (Kd.R_lower (Kd.R_new' (Kd.R_new' (Kd.R_new' ho0 (Kd.R_lt (by (with_reducible repeat (first | apply Kd.R_alloc | apply Kd.R_drewN | apply Kd.R_drew)); exact HO_5.out))) (Kd.R_lt (by (with_reducible repeat (first | apply Kd.R_alloc | apply Kd.R_drewN | apply Kd.R_drew)); exact HO164.out))) (Kd.R_lt (by (with_reducible repeat (first | apply Kd.R_alloc | apply Kd.R_drewN | apply Kd.R_drew)); exact HO168.out))) (below_size (by repeat (first | (with_reducible first | exact HB.out | apply below_alloc | apply pw_below_drewN | apply below_drew1) | exact HB.out)))); replace HO_5 := Aside0.mk (Kd.R_elder' (by (with_reducible repeat (first | apply Kd.R_alloc | apply Kd.R_drewN | apply Kd.R_drew)); exact HO_5.out) (Kd.R_base ho0) hb); replace HO164 := Aside0.mk (Kd.R_elder' (by (with_reducible repeat (first | apply Kd.R_alloc | apply Kd.R_drewN | apply Kd.R_drew)); exact HO164.out) (Kd.R_base ho0) hb); replace HO168 := Aside0.mk (Kd.R_elder' (by (with_reducible repeat (first | apply Kd.R_alloc | apply Kd.R_drewN | apply Kd.R_drew)); exact HO168.out) (Kd.R_base ho0) hb); replace HB := Aside0.mk (below_step (by repeat (first | (with_reducible first | exact HB.out | apply below_alloc | apply pw_below_drewN | apply below_drew1) | exact HB.out)) hb)))
      go_roundg k1
      case measure => have := HK1.out; omega
      case rel => exact ⟨(t169), (wrap64 (x6_1 - 1)), rfl, H', ⟨by have := HK1.out; omega⟩, ⟨by (with_reducible repeat (first | apply Kd.R_alloc | apply Kd.R_drewN | apply Kd.R_drew)); exact Kd.R_mono HO171.out (fun _ hk => trivial)⟩, ⟨by repeat (first | (with_reducible first | exact HB.out | apply below_alloc | apply pw_below_drewN | apply below_drew1) | exact HB.out)⟩⟩
end Go.Proofs.Ytcepdndhkidehaa.PA
end
section
namespace Go.Proofs.Ytcepdndhkidehaa.M
open Go.RowKit Go.Proofs.YtcepdndhkidehaaW.PrintWords Go.Proofs.YtcepdndhkidehaaW.PrintLast Go.Proofs.YtcepdndhkidehaaW.PrintMore Go.Proofs.Ytcepdndhkidehaa.PA
set_option linter.unusedVariables false
set_option linter.unusedSimpArgs false

/-- A number's limbs, and its decimals. -/
def L (n : Nat) : List Int := nl (dg 4294967296 n)
def D (n : Nat) : List Int := nl (dg 10 n)
theorem b32 : 2 ≤ 4294967296 := by decide
theorem b10 : 2 ≤ 10 := by decide
def ln (n : Nat) : Nat := (dg 4294967296 n).length
def dn (n : Nat) : Nat := (dg 10 n).length
theorem L_length (n : Nat) : (L n).length = ln n := nl_length _
theorem D_length (n : Nat) : (D n).length = dn n := nl_length _

theorem pred_wrap {n : Nat} (h : n ≤ 4611686018427387904) : wrap64 (((n + 1 : Nat) : Int) - 1) = (n : Int) := by rw [wrap_id] <;> omega
theorem succ_wrap {n : Nat} (h : n ≤ 4611686018427387904) : wrap64 ((n : Int) + 1) = ((n + 1 : Nat) : Int) := by rw [wrap_id] <;> omega
theorem clone_nl {l : List Int} (h : l.length ≤ 1099511627776) : slices_Clone_uint32_uint32.f l = some l := by
  unfold slices_Clone_uint32_uint32.f
  rw [Option.bind_some, if_pos (by simp; omega), List.nil_append]
theorem limbs_nl {l : List Int} (h : l.length ≤ 1099511627776) : nat_Nat_Limbs.f l = some l := by
  unfold nat_Nat_Limbs.f; rw [clone_nl h]; rfl

theorem made_loop {l : List Nat} (hl : l.length ≤ 1099511627776) : ∀ n, n ≤ l.length → (∀ i, n ≤ i → gd l i = 0) → Ev (fun k => nat_Made.l0 k (nl l) (n : Int)) (nl (trim l)) := by
  intro n
  have fin : ∀ n, n ≤ l.length → (n = 0 ∨ gd l (n - 1) ≠ 0) → (∀ i, n ≤ i → gd l i = 0) → slices_Clone_uint32_uint32.f ((nl l).take ((n : Int)).toNat) = some (nl (trim l)) := by
    intro n hn h1 h2
    rw [Int.toNat_natCast, nl_take, clone_nl (by rw [nl_length, List.length_take]; omega), trim_take hn h1 h2]
  induction n with
  | zero =>
    intro hn hz
    refine Ev.step (fun k => by rw [nat_Made.l0]) ?_
    refine ev_neg (by omega) (ev_pos (by omega) (ev_pos (by rw [nl_length]; omega) (ev_some (fin 0 hn (.inl rfl) hz) (Ev.now _))))
  | succ n ih =>
    intro hn hz
    refine Ev.step (fun k => by rw [nat_Made.l0, pred_wrap (by omega)]) ?_
    refine ev_pos (by omega) (ev_pos (by omega) (ev_pos (by rw [nl_length]; omega) ?_))
    by_cases h0 : gd l n = 0
    · refine ev_pos (by rw [rd_nl, h0]; rfl) (ih (by omega) fun i hi => ?_)
      rcases Nat.lt_or_eq_of_le hi with h | rfl
      · exact hz i h
      · exact h0
    · refine ev_neg (by rw [rd_nl]; omega) (ev_pos (by omega) (ev_pos (by rw [nl_length]; omega) (ev_some (fin (n + 1) hn (.inr (by simpa using h0)) hz) (Ev.now _))))
theorem made_nl {l : List Nat} (hl : l.length ≤ 1099511627776) : Ev (fun k => nat_Made.f k (nl l)) (nl (trim l)) := by
  have := made_loop hl l.length (Nat.le_refl _) (fun i hi => gd_ge hi)
  unfold nat_Made.f
  rw [nl_length]
  exact this
theorem made_val {l : List Nat} (hl : l.length ≤ 1099511627776) (h : Dg 4294967296 l) : Ev (fun k => nat_Made.f k (nl l)) (L (val 4294967296 l)) := by
  unfold L; rw [dg_val b32 h]; exact made_nl hl

theorem rtrim_loop {l : List Nat} (hl : l.length ≤ 1099511627776) : ∀ n, n ≤ l.length → (∀ i, n ≤ i → gd l i = 0) → Ev (fun k => numeraryref02_trim.l0 k (nl l) (n : Int)) (nl (trim l)) := by
  intro n
  have fin : ∀ n, n ≤ l.length → (n = 0 ∨ gd l (n - 1) ≠ 0) → (∀ i, n ≤ i → gd l i = 0) → (nl l).take ((n : Int)).toNat = nl (trim l) := by
    intro n hn h1 h2
    rw [Int.toNat_natCast, nl_take, trim_take hn h1 h2]
  induction n with
  | zero =>
    intro hn hz
    refine Ev.step (fun k => by rw [numeraryref02_trim.l0]) ?_
    exact ev_neg (by omega) (ev_pos (by omega) (ev_pos (by rw [nl_length]; omega) (ev_now (fin 0 hn (.inl rfl) hz))))
  | succ n ih =>
    intro hn hz
    refine Ev.step (fun k => by rw [numeraryref02_trim.l0, pred_wrap (by omega)]) ?_
    refine ev_pos (by omega) (ev_pos (by omega) (ev_pos (by rw [nl_length]; omega) ?_))
    by_cases h0 : gd l n = 0
    · refine ev_pos (by rw [rd_nl, h0]; rfl) (ih (by omega) fun i hi => ?_)
      rcases Nat.lt_or_eq_of_le hi with h | rfl
      · exact hz i h
      · exact h0
    · exact ev_neg (by rw [rd_nl]; omega) (ev_pos (by omega) (ev_pos (by rw [nl_length]; omega) (ev_now (fin (n + 1) hn (.inr (by simpa using h0)) hz))))
theorem rtrim_val {l : List Nat} (hl : l.length ≤ 1099511627776) (h : Dg 10 l) : Ev (fun k => numeraryref02_trim.f k (nl l)) (D (val 10 l)) := by
  have := rtrim_loop hl l.length (Nat.le_refl _) (fun i hi => gd_ge hi)
  unfold numeraryref02_trim.f D
  rw [nl_length, dg_val b10 h]
  exact this

/-- of up to 64 bits. -/
theorem of_val {n : Nat} (hn : n < 18446744073709551616) : Ev (fun k => nat_Of.f k (n : Int)) (L n) := by
  have h : Dg 4294967296 [n % 4294967296, n / 4294967296] := Dg.cons (Nat.mod_lt _ (by decide)) (Dg.cons (by omega) (Dg.nil _))
  have h1 := made_val (l := [n % 4294967296, n / 4294967296]) (by simp) h
  have h2 : val 4294967296 [n % 4294967296, n / 4294967296] = n := by simp only [val]; omega
  rw [h2] at h1
  refine Ev.congr (fun k => by unfold nat_Of.f; rfl) ?_
  have h3 : ([(n : Int) % 4294967296, ((n : Int) / 4294967296) % 4294967296] : List Int) = nl [n % 4294967296, n / 4294967296] := by
    rw [nl_cons, nl_cons, nl_nil]
    congr 2
    omega
  rw [h3]
  exact h1.bind (Ev.now _)

/-! ### the document's -/
theorem rat_nl (l : List Nat) (i : Nat) : numeraryref02_at.f (nl l) (i : Int) = some ((gd l i : Nat) : Int) := by
  unfold numeraryref02_at.f
  by_cases h : i < l.length
  · rw [if_pos (by rw [nl_length]; omega), if_pos (by omega), rd_nl]
  · rw [if_neg (by rw [nl_length]; omega), gd_ge (by omega)]; rfl
theorem rof_loop : ∀ (n : Nat) (out : List Nat), n < 18446744073709551616 → out.length + (dg 10 n).length ≤ 1000 → Ev (fun k => numeraryref02_Of.l0 k (n : Int) (nl out)) (nl (out ++ dg 10 n)) := by
  intro n
  induction n using Nat.strongRecOn with
  | _ n ih =>
    intro out hn hl
    refine Ev.step (fun k => by rw [numeraryref02_Of.l0]) ?_
    rcases Nat.eq_zero_or_pos n with rfl | h0
    · exact ev_neg (by omega) (ev_now (by rw [dg_zero, List.append_nil]))
    · rw [dg_pos b10 h0] at hl ⊢
      simp only [List.length_cons] at hl
      refine ev_pos (by omega) (ev_pos (by rw [nl_length]; omega) ?_)
      have h1 : IntKind.u64.wrap (Int.tdiv (n : Int) 10) = ((n / 10 : Nat) : Int) := by
        rw [Int.tdiv_eq_ediv_of_nonneg (by omega), u64_id] <;> omega
      have h2 : wrap64 (Int.tmod (n : Int) 10) = ((n % 10 : Nat) : Int) := by
        rw [Int.tmod_eq_emod_of_nonneg (by omega), wrap_id] <;> omega
      have h3 := ih (n / 10) (by omega) (out ++ [n % 10]) (by omega) (by simp only [List.length_append, List.length_cons, List.length_nil]; omega)
      rw [h1, h2, show nl out ++ [((n % 10 : Nat) : Int)] = nl (out ++ [n % 10]) by rw [nl_append]; rfl]
      rw [List.append_assoc] at h3
      exact h3
theorem rof_val {n : Nat} (hn : n < 18446744073709551616) : Ev (fun k => numeraryref02_Of.f k (n : Int)) (D n) := by
  have h : (dg 10 n).length ≤ 20 := (dg_len b10 n 20).mpr (by omega)
  exact rof_loop n [] hn (by simp; omega)

/-! times a small number -/
theorem rtimes_tail (a : List Nat) (m : Nat) (hm : m < 1099511627776) : ∀ (c : Nat) (out : List Nat), c ≤ m → Dg 10 out → a.length ≤ out.length → out.length + (dg 10 c).length ≤ 1099511627776 →
    Ev (fun k => numeraryref02_Times.l0 k (nl a) (m : Int) (nl out) (c : Int) (out.length : Int)) (D (val 10 out + 10 ^ out.length * c)) := by
  intro c
  induction c using Nat.strongRecOn with
  | _ c ih =>
    intro out hc ho hl hb
    refine Ev.step (fun k => by rw [numeraryref02_Times.l0]) ?_
    refine ev_neg (by rw [nl_length]; omega) ?_
    rcases Nat.eq_zero_or_pos c with rfl | h0
    · refine ev_neg (by omega) ?_
      rw [Nat.mul_zero, Nat.add_zero]
      exact (rtrim_val (by omega) ho).bind (Ev.now _)
    · rw [dg_pos b10 h0] at hb
      simp only [List.length_cons] at hb
      refine ev_pos (by omega) (ev_some (rat_nl a out.length) (ev_pos (by rw [nl_length]; omega) ?_))
      rw [gd_ge hl, show wrap64 ((c : Int) + wrap64 (((0 : Nat) : Int) * (m : Int))) = (c : Int) by rw [show (((0 : Nat) : Int) * (m : Int)) = 0 by simp, wrap_id (x := 0) (by omega) (by omega), wrap_id] <;> omega]
      have h1 : wrap64 (Int.tdiv (c : Int) 10) = ((c / 10 : Nat) : Int) := by
        rw [Int.tdiv_eq_ediv_of_nonneg (by omega), wrap_id] <;> omega
      have h2 : Int.tmod (c : Int) 10 = ((c % 10 : Nat) : Int) := by
        rw [Int.tmod_eq_emod_of_nonneg (by omega)]; omega
      have h3 := ih (c / 10) (by omega) (out ++ [c % 10]) (by omega) (ho.append (Dg.cons (Nat.mod_lt _ (by decide)) (Dg.nil _))) (by simp; omega) (by simp only [List.length_append, List.length_cons, List.length_nil]; omega)
      rw [h1, h2, succ_wrap (by omega), show nl out ++ [((c % 10 : Nat) : Int)] = nl (out ++ [c % 10]) by rw [nl_append]; rfl]
      rw [val_snoc, List.length_append, List.length_cons, List.length_nil, Nat.zero_add] at h3
      have h4 : val 10 out + 10 ^ out.length * (c % 10) + 10 ^ (out.length + 1) * (c / 10) = val 10 out + 10 ^ out.length * c := by
        have := Nat.mod_add_div c 10
        rw [Nat.pow_succ]
        grind
      rw [h4] at h3
      exact h3
theorem rtimes_head (a : List Nat) (m : Nat) (hm : m < 1099511627776) (ha : Dg 10 a) (hb : a.length ≤ 549755813888) : ∀ (d c : Nat) (out : List Nat), out.length + d = a.length → c ≤ m → Dg 10 out → val 10 out + 10 ^ out.length * c = val 10 (a.take out.length) * m →
    Ev (fun k => numeraryref02_Times.l0 k (nl a) (m : Int) (nl out) (c : Int) (out.length : Int)) (D (val 10 a * m)) := by
  intro d
  induction d with
  | zero =>
    intro c out hd hc ho hv
    have h1 : (dg 10 c).length ≤ 20 := (dg_len b10 c 20).mpr (by omega)
    have := rtimes_tail a m hm c out hc ho (by omega) (by omega)
    rw [hv, List.take_of_length_le (by omega)] at this
    exact this
  | succ d ih =>
    intro c out hd hc ho hv
    have hg := ha.gd (by decide) out.length
    refine Ev.step (fun k => by rw [numeraryref02_Times.l0]) ?_
    refine ev_pos (by rw [nl_length]; omega) (ev_some (rat_nl a out.length) (ev_pos (by rw [nl_length]; omega) ?_))
    obtain ⟨g, hge⟩ : ∃ g, gd a out.length = g := ⟨_, rfl⟩
    rw [hge] at hg ⊢
    have hgm : g * m ≤ 9 * m := Nat.mul_le_mul_right m (by omega)
    obtain ⟨p, hp⟩ : ∃ p, g * m = p := ⟨_, rfl⟩
    rw [hp] at hgm
    rw [wrap_mul (by rw [hp]; omega), hp, wrap_add (by omega), tdiv10, tmod10, wrap_nat (by omega), succ_wrap (by omega), nl_snoc]
    have h3 := ih ((c + p) / 10) (out ++ [(c + p) % 10]) (by simp only [List.length_append, List.length_cons, List.length_nil]; omega) (by omega) (ho.append (Dg.cons (Nat.mod_lt _ (by decide)) (Dg.nil _)))
    rw [val_snoc, List.length_append, List.length_cons, List.length_nil, Nat.zero_add] at h3
    refine h3 ?_
    rw [val_take_succ, hge]
    have := Nat.mod_add_div (c + p) 10
    rw [Nat.pow_succ]
    grind
theorem rtimes_val {a : List Nat} {m : Nat} (ha : Dg 10 a) (hb : a.length ≤ 549755813888) (hm : m < 1099511627776) : Ev (fun k => numeraryref02_Times.f k (nl a) (m : Int)) (D (val 10 a * m)) :=
  rtimes_head a m hm ha hb a.length 0 [] (by simp) (Nat.zero_le _) (Dg.nil _) (by simp [val])
theorem rtimes_D {n m : Nat} (hb : dn n ≤ 549755813888) (hm : m < 1099511627776) : Ev (fun k => numeraryref02_Times.f k (D n) (m : Int)) (D (n * m)) := by
  have := rtimes_val (Dg_dg b10 n) hb hm
  rw [val_dg b10] at this
  exact this

/-! the sum -/
theorem radd_step (a b : List Nat) (ha : Dg 10 a) (hb : Dg 10 b) (c : Nat) (out : List Nat) (hl : out.length ≤ 1099511627776) (hc : c ≤ 1) {r : List Int}
    (h : Ev (fun k => numeraryref02_Add.l0 k (nl a) (nl b) (nl (out ++ [(c + gd a out.length + gd b out.length) % 10])) (((c + gd a out.length + gd b out.length) / 10 : Nat) : Int) ((out.length + 1 : Nat) : Int)) r) :
    Ev (fun k => numeraryref02_Add.j1 k (nl a) (nl b) (nl out) (c : Int) (out.length : Int) true) r := by
  refine Ev.step (fun k => by rw [numeraryref02_Add.j1]) ?_
  refine ev_pos rfl (ev_some (rat_nl a out.length) (ev_some (rat_nl b out.length) (ev_pos (by rw [nl_length]; omega) ?_)))
  have hg := ha.gd (by decide) out.length
  have hg2 := hb.gd (by decide) out.length
  obtain ⟨g, hge⟩ : ∃ g, gd a out.length = g := ⟨_, rfl⟩
  obtain ⟨g2, hge2⟩ : ∃ g, gd b out.length = g := ⟨_, rfl⟩
  rw [hge] at hg h ⊢
  rw [hge2] at hg2 h ⊢
  rw [show wrap64 (wrap64 ((c : Int) + (g : Int)) + (g2 : Int)) = ((c + g + g2 : Nat) : Int) by rw [wrap_id (x := (c : Int) + (g : Int)) (by omega) (by omega), wrap_id] <;> omega]
  have h1 : wrap64 (Int.tdiv ((c + g + g2 : Nat) : Int) 10) = (((c + g + g2) / 10 : Nat) : Int) := by
    rw [Int.tdiv_eq_ediv_of_nonneg (by omega), wrap_id] <;> omega
  have h2 : Int.tmod ((c + g + g2 : Nat) : Int) 10 = (((c + g + g2) % 10 : Nat) : Int) := by
    rw [Int.tmod_eq_emod_of_nonneg (by omega)]; omega
  rw [h1, h2, succ_wrap (by omega), show nl out ++ [(((c + g + g2) % 10 : Nat) : Int)] = nl (out ++ [(c + g + g2) % 10]) by rw [nl_append]; rfl]
  exact h
theorem radd_loop (a b : List Nat) (ha : Dg 10 a) (hb : Dg 10 b) (hl : a.length ≤ 549755813888) (hl2 : b.length ≤ 549755813888) : ∀ (d c : Nat) (out : List Nat), max a.length b.length + 1 ≤ out.length + d → out.length ≤ max a.length b.length + 1 → (out.length = max a.length b.length + 1 → c = 0) → c ≤ 1 → Dg 10 out → val 10 out + 10 ^ out.length * c = val 10 (a.take out.length) + val 10 (b.take out.length) →
    Ev (fun k => numeraryref02_Add.l0 k (nl a) (nl b) (nl out) (c : Int) (out.length : Int)) (D (val 10 a + val 10 b)) := by
  intro d
  have fin : ∀ (c : Nat) (out : List Nat), max a.length b.length ≤ out.length → out.length ≤ max a.length b.length + 1 → c = 0 → Dg 10 out → val 10 out + 10 ^ out.length * c = val 10 (a.take out.length) + val 10 (b.take out.length) →
      Ev (fun k => numeraryref02_Add.l0 k (nl a) (nl b) (nl out) (c : Int) (out.length : Int)) (D (val 10 a + val 10 b)) := by
    intro c out h1 h2 h3 ho hv
    subst h3
    refine Ev.step (fun k => by rw [numeraryref02_Add.l0]) ?_
    refine ev_neg (by rw [nl_length]; omega) (ev_neg (by rw [nl_length]; omega) ?_)
    refine Ev.step (fun k => by rw [numeraryref02_Add.j1]) ?_
    refine ev_neg (by simp) ?_
    rw [List.take_of_length_le (by omega), List.take_of_length_le (by omega), Nat.mul_zero, Nat.add_zero] at hv
    rw [← hv]
    exact (rtrim_val (by omega) ho).bind (Ev.now _)
  induction d with
  | zero =>
    intro c out h1 h2 h3 h4 ho hv
    exact fin c out (by omega) h2 (h3 (by omega)) ho hv
  | succ d ih =>
    intro c out h1 h2 h3 h4 ho hv
    have hg := ha.gd (by decide) out.length
    have hg2 := hb.gd (by decide) out.length
    have more : out.length ≤ max a.length b.length → Ev (fun k => numeraryref02_Add.j1 k (nl a) (nl b) (nl out) (c : Int) (out.length : Int) true) (D (val 10 a + val 10 b)) := by
      intro hm
      refine radd_step a b ha hb c out (by omega) h4 ?_
      have h := ih ((c + gd a out.length + gd b out.length) / 10) (out ++ [(c + gd a out.length + gd b out.length) % 10]) (by simp only [List.length_append, List.length_cons, List.length_nil]; omega) (by simp only [List.length_append, List.length_cons, List.length_nil]; omega)
        (by
          simp only [List.length_append, List.length_cons, List.length_nil]
          intro h
          rw [gd_ge (l := a) (by omega), gd_ge (l := b) (by omega)]
          omega) (by omega) (ho.append (Dg.cons (Nat.mod_lt _ (by decide)) (Dg.nil _)))
      rw [val_snoc, List.length_append, List.length_cons, List.length_nil, Nat.zero_add] at h
      refine h ?_
      rw [val_take_succ, val_take_succ]
      have := Nat.mod_add_div (c + gd a out.length + gd b out.length) 10
      rw [Nat.pow_succ]
      grind
    refine Ev.step (fun k => by rw [numeraryref02_Add.l0]) ?_
    by_cases c1 : out.length < a.length
    · exact ev_pos (by rw [nl_length]; omega) (more (by omega))
    · refine ev_neg (by rw [nl_length]; omega) ?_
      by_cases c2 : out.length < b.length
      · exact ev_pos (by rw [nl_length]; omega) (more (by omega))
      · refine ev_neg (by rw [nl_length]; omega) ?_
        by_cases c3 : c = 0
        · subst c3
          have := fin 0 out (by omega) h2 rfl ho hv
          obtain ⟨K, hK⟩ := this
          refine ⟨K, fun k hk => ?_⟩
          have h5 : numeraryref02_Add.l0 (k + 1) (nl a) (nl b) (nl out) ((0 : Nat) : Int) (out.length : Int) = some _ := hK (k + 1) (by omega)
          rw [numeraryref02_Add.l0, if_neg (by rw [nl_length]; omega), if_neg (by rw [nl_length]; omega)] at h5
          exact h5
        · have hm : out.length ≤ max a.length b.length := by
            rcases Nat.lt_or_ge (max a.length b.length) out.length with h | h
            · exact absurd (h3 (by omega)) c3
            · exact h
          rw [show (decide ((c : Int) > 0)) = true by simp; omega]
          exact more hm
theorem radd_val {a b : List Nat} (ha : Dg 10 a) (hb : Dg 10 b) (hl : a.length ≤ 549755813888) (hl2 : b.length ≤ 549755813888) : Ev (fun k => numeraryref02_Add.f k (nl a) (nl b)) (D (val 10 a + val 10 b)) :=
  radd_loop a b ha hb hl hl2 (max a.length b.length + 1) 0 [] (by simp) (by simp) (by simp) (by omega) (Dg.nil _) (by simp [val])
theorem radd_D {m n : Nat} (hl : dn m ≤ 549755813888) (hl2 : dn n ≤ 549755813888) : Ev (fun k => numeraryref02_Add.f k (D m) (D n)) (D (m + n)) := by
  have := radd_val (Dg_dg b10 m) (Dg_dg b10 n) hl hl2
  rw [val_dg b10, val_dg b10] at this
  exact this

/-! which is greater -/
def cmpI (m n : Nat) : Int := if m < n then -1 else if n < m then 1 else 0
theorem rcmp_loop (m n : Nat) (hl : dn m = dn n) (hb : dn m ≤ 1099511627776) : ∀ i, i ≤ dn m → (dg 10 m).drop i = (dg 10 n).drop i → Ev (fun k => numeraryref02_Cmp.l0 k (D m) (D n) ((i : Int) - 1)) (cmpI m n) := by
  intro i
  induction i with
  | zero =>
    intro h1 h2
    rw [List.drop_zero, List.drop_zero] at h2
    have := dg_inj b10 h2
    subst this
    refine Ev.step (fun k => by rw [numeraryref02_Cmp.l0]) ?_
    exact ev_neg (by omega) (ev_now (by unfold cmpI; rw [if_neg (Nat.lt_irrefl _), if_neg (Nat.lt_irrefl _)]))
  | succ i ih =>
    intro h1 h2
    have e : (((i + 1 : Nat) : Int) - 1) = (i : Int) := by omega
    rw [e]
    refine Ev.step (fun k => by rw [numeraryref02_Cmp.l0]) ?_
    unfold dn at h1 hl hb
    refine ev_pos (by omega) (ev_pos (by omega) (ev_pos (by rw [D_length]; unfold dn; omega) (ev_pos (by rw [D_length]; unfold dn; omega) ?_)))
    unfold D
    by_cases c1 : gd (dg 10 m) i < gd (dg 10 n) i
    · refine ev_pos (by rw [rd_nl, rd_nl]; omega) (ev_now ?_)
      have := val_cmp (by decide) (Dg_dg b10 m) (Dg_dg b10 n) hl (by omega) h2 c1
      rw [val_dg b10, val_dg b10] at this
      unfold cmpI; rw [if_pos this]
    · refine ev_neg (by rw [rd_nl, rd_nl]; omega) ?_
      by_cases c2 : gd (dg 10 n) i < gd (dg 10 m) i
      · refine ev_pos (by rw [rd_nl, rd_nl]; omega) (ev_now ?_)
        have := val_cmp (by decide) (Dg_dg b10 n) (Dg_dg b10 m) hl.symm (by omega) h2.symm c2
        rw [val_dg b10, val_dg b10] at this
        unfold cmpI; rw [if_neg (by omega), if_pos this]
      · refine ev_neg (by rw [rd_nl, rd_nl]; omega) ?_
        have h3 := ih (by unfold dn; omega) (by rw [drop_cons _ i (by omega), drop_cons _ i (by omega), h2, show gd (dg 10 m) i = gd (dg 10 n) i by omega])
        rw [wrap_id (by omega) (by omega)]
        exact h3
theorem rcmp_D {m n : Nat} (hb : dn m ≤ 1099511627776) (hb2 : dn n ≤ 1099511627776) : Ev (fun k => numeraryref02_Cmp.f k (D m) (D n)) (cmpI m n) := by
  refine Ev.congr (fun k => by unfold numeraryref02_Cmp.f; rw [D_length, D_length]) ?_
  by_cases c1 : dn m = dn n
  · refine ev_pos (by omega) ?_
    have := rcmp_loop m n c1 hb (dn m) (Nat.le_refl _) (by rw [List.drop_of_length_le (by unfold dn; omega), List.drop_of_length_le (by rw [c1]; unfold dn; omega)])
    rw [wrap_id (by omega) (by omega)]
    exact this
  · refine ev_neg (by omega) ?_
    by_cases c2 : dn m < dn n
    · exact ev_pos (by omega) (ev_now (by have := len_cmp b10 c2; unfold cmpI; rw [if_pos this]))
    · exact ev_neg (by omega) (ev_now (by have := len_cmp b10 (m := n) (n := m) (by unfold dn at *; omega); unfold cmpI; rw [if_neg (by omega), if_pos this]))
end Go.Proofs.Ytcepdndhkidehaa.M
end
section
namespace Go.Proofs.Ytcepdndhkidehaa.PA
open Go.RowKit Go.Proofs.YtcepdndhkidehaaW.PrintWords Go.Proofs.YtcepdndhkidehaaW.PrintLast Go.Proofs.YtcepdndhkidehaaW.PrintMore
attribute [local go_sem] max2_int min2_int max_two min_two max_three min_three max_four min_four   -- for this text's walks alone
set_option linter.unusedVariables false
set_option linter.unusedSimpArgs false

/-! ### times_All: function 25 -/
def times_All.l0 : Nat → List (S25) → Int → Int → List Int → Option (List Int)
  | 0, _, _, _, _ => none
  | k + 1, x7, x8, x9, x208000 => if x9 < x8 then (if 0 ≤ x9 then (if x9 < (x7.length : Int) then ((times_Mul.f k x208000 ((rd_T25 x7 x9).f0)).bind fun t210 => (times_All.l0 k x7 x8 (wrap64 (x9 + 1)) t210)) else (none)) else (none)) else (some x208000)
def times_All.f (k : Nat) (l0 : List (S25)) : Option (List Int) := (nat_Of.f k 1).bind fun t204 => (times_All.l0 k l0 (l0.length : Int) 0 t204)
theorem times_All.mono_l : ∀ k, (∀ y0 y1 y2 y3, LeO (times_All.l0 k y0 y1 y2 y3) (times_All.l0 (k + 1) y0 y1 y2 y3))
  | 0 => fun _ _ _ _ r h => by simp [times_All.l0] at h
  | k + 1 => by
    have ih0 := times_All.mono_l k
    intro y0 y1 y2 y3
    unfold times_All.l0
    repeat' first
    | (with_reducible exact ih0 _ _ _ _)
    | (with_reducible exact nat_Of.mono _ _)
    | (with_reducible exact times_Mul.mono _ _ _)
    | (with_reducible exact LeO.refl _)
    | (with_reducible exact LeO.none _)
    | (with_reducible refine LeO.ite ?_ ?_)
    | (with_reducible refine LeO.bind ?_ (fun _ => ?_))
    | exact ih0 _ _ _ _
    | exact nat_Of.mono _ _
    | exact times_Mul.mono _ _ _
    | exact LeO.none _
    | refine LeO.ite ?_ ?_
    | refine LeO.bind ?_ (fun _ => ?_)
theorem times_All.mono : ∀ a0 k, LeO (times_All.f k a0) (times_All.f (k + 1) a0) := by
  intro a0 k
  have ih0 := times_All.mono_l k
  unfold times_All.f
  repeat' first
      | (with_reducible exact ih0 _ _ _ _)
      | (with_reducible exact nat_Of.mono _ _)
      | (with_reducible exact times_Mul.mono _ _ _)
      | (with_reducible exact LeO.refl _)
      | (with_reducible exact LeO.none _)
      | (with_reducible refine LeO.ite ?_ ?_)
      | (with_reducible refine LeO.bind ?_ (fun _ => ?_))
set_option maxHeartbeats 8000000 in
set_option maxRecDepth 100000 in
theorem times_All.calls (k : Nat) (A0 : Option Addr) (c0 : Nat) (l0 : List (S25)) (r : List Int) (w : World) (hr0 : Kd.C k25 w A0 l0.length l0) (hc0 : l0.length ≤ c0) (h : times_All.f k l0 = some r) :
    Calls Try.prog 25 #[.slice A0 l0.length c0] w fun e w' => ∃ v0_ : Value, e = .returned (.agg #[v0_]) ∧ Kd.R (Kd.int .u32) 23 w' w.heap.size (fun _ => True) v0_ r ∧ Below w.heap.size w w' := by
  have hu25 := Try.underlying25
  have HR0 := Aside0.mk hr0
  have HC0 := Aside0.mk hc0
  clear hr0 hc0
  have HB := Aside0.mk (Below.refl w.heap.size w)
  have H : ((nat_Of.f k 1).bind fun t204 => (times_All.l0 k l0 (l0.length : Int) 0 t204)) = some r := h
  clear h
  replace H := Option.bind_eq_some_iff.mp H
  obtain ⟨t204, A20, H⟩ := H
  have A2 := Aside0.mk A20
  clear A20
  have H' := Aside0.mk H
  clear H
  go_enter Try.func25, Try.ntmps25
  go_wp2_with (first | ((with_reducible refine gate_dst (N := 2) rfl ?_); refine box_event ?hg (N := 2) ?hd (cs := #[.slice none 0 0]) (t := 25) ?hr ?_; (case hd => rfl); (case hg => rfl); (case hr => first | (go_simp; done) | (go_simp; rfl)); intro gb203 hg w3 hbox hb; have BK203 := Aside0.mk (hbox); have GW203 := Aside0.mk ((by rw [hg]; exact (below_size (by repeat (first | (with_reducible first | exact HB.out | apply below_alloc | apply pw_below_drewN | apply below_drew1) | exact HB.out))) : w.heap.size ≤ gb203)); have GE203 := Aside0.mk ((by rw [hg]; exact (below_size (by repeat (first | (with_reducible first | exact HB.out | apply below_alloc | apply pw_below_drewN | apply below_drew1) | exact HB.out))) : w.heap.size ≤ gb203)); replace HB := Aside0.mk (below_step (by repeat (first | (with_reducible first | exact HB.out | apply below_alloc | apply pw_below_drewN | apply below_drew1) | exact HB.out)) hb); clear hb hbox hg) | ((with_reducible refine gate_callee (f := 26) rfl ?_); refine goesL_ (some 6) rfl rfl Try.func26 (by kernel_rfl) rfl #[.int .u64 1] rfl (by (try simp only [List.map_toArray, List.map_cons, List.map_nil]); first | done | rfl | (simp only [List.length_drop, List.length_take]; rfl)) ?_; (with_reducible refine (nat_Of.calls k 1 t204 _ A2.out).mono ?_); rintro e w4 ⟨v205, rfl, ho0, hb⟩; refine ⟨_, rfl, ?_⟩; have HO206 := Aside0.mk (Kd.R_lower ho0 (below_size (by repeat (first | (with_reducible first | exact HB.out | apply below_alloc | apply pw_below_drewN | apply below_drew1 | refine below_set ?_ GE203.out) | exact HB.out)))); replace BK203 := Aside0.mk (blk_below (g := gb203) (o := .cells #[.slice none 0 0] 25 (0, 0)) (by (with_reducible repeat (first | refine blk_drewN ?_ _ | refine blk_drew ?_ | refine blk_alloc ?_ _)); exact BK203.out) hb); replace HB := Aside0.mk (below_step (by repeat (first | (with_reducible first | exact HB.out | apply below_alloc | apply pw_below_drewN | apply below_drew1 | refine below_set ?_ GE203.out) | exact HB.out)) hb)) | ((with_reducible refine gate_dst (N := 3) rfl ?_); refine box_event ?hg (N := 3) ?hd (cs := #[.slice none 0 0]) (t := 25) ?hr ?_; (case hd => rfl); (case hg => rfl); (case hr => first | (go_simp; done) | (go_simp; rfl)); intro gb207 hg w5 hbox hb; replace HO206 := Aside0.mk (Kd.R_below (by (with_reducible repeat (first | apply Kd.R_alloc | apply Kd.R_drewN | apply Kd.R_drew)); exact HO206.out) hb); have BK207 := Aside0.mk (hbox); have GW207 := Aside0.mk ((by rw [hg]; exact (below_size (by repeat (first | (with_reducible first | exact HB.out | apply below_alloc | apply pw_below_drewN | apply below_drew1 | refine below_set ?_ GE203.out) | exact HB.out))) : w.heap.size ≤ gb207)); have GE207 := Aside0.mk ((by rw [hg]; exact (below_size (by repeat (first | (with_reducible first | exact HB.out | apply below_alloc | apply pw_below_drewN | apply below_drew1 | refine below_set ?_ GE203.out) | exact HB.out))) : w.heap.size ≤ gb207)); replace HB := Aside0.mk (below_step (by repeat (first | (with_reducible first | exact HB.out | apply below_alloc | apply pw_below_drewN | apply below_drew1 | refine below_set ?_ GE203.out) | exact HB.out)) hb); have NB203_207 := Aside0.mk ((by rw [hg]; exact Nat.ne_of_lt (blk_lt (g := gb203) (o := .cells #[.slice none 0 0] 25 (0, 0)) (by (with_reducible repeat (first | refine blk_drewN ?_ _ | refine blk_drew ?_ | refine blk_alloc ?_ _)); exact BK203.out)) : gb203 ≠ gb207)); have NB207_203 := Aside0.mk ((by rw [hg]; exact Nat.ne_of_gt (blk_lt (g := gb203) (o := .cells #[.slice none 0 0] 25 (0, 0)) (by (with_reducible repeat (first | refine blk_drewN ?_ _ | refine blk_drew ?_ | refine blk_alloc ?_ _)); exact BK203.out)) : gb207 ≠ gb203)); replace BK203 := Aside0.mk (blk_below (g := gb203) (o := .cells #[.slice none 0 0] 25 (0, 0)) (by (with_reducible repeat (first | refine blk_drewN ?_ _ | refine blk_drew ?_ | refine blk_alloc ?_ _)); exact BK203.out) hb); clear hb hbox hg; obtain ⟨Ao6, co6, eo6⟩ := Kd.R_slice HO206.out; subst eo6; have hnb7 := NB207_203.out; have hnc7 := NB203_207.out; have hcz8_0 : w5.cell? ⟨gb207, 0, none⟩ = some (.slice none 0 0) := (blk_cell BK207.out 0).trans rfl; have hfz8_0 := blk_frozen BK207.out 0))
  (try simp only [Act.put, List.setIfInBounds_toArray, List.set_cons_zero, List.set_cons_succ])
  go_loopg [9] k (fun kq v9 w' => ∃ (x9_1 : Int) (x208000_1 : List Int) (u208000 : Value), v9 = .int .i64 x9_1 ∧ Aside0 (times_All.l0 kq l0 (l0.length : Int) x9_1 x208000_1 = some r) ∧ Aside0 (kq ≤ k) ∧ Aside0 (Kd.R (Kd.int .u32) 23 w' w.heap.size (fun _ => True) u208000 x208000_1) ∧ Aside0 (w'.heap[gb203]? = some (.cells #[(.slice none 0 0)] 25 (0, 0))) ∧ Aside0 (w'.heap[gb207]? = some (.cells #[u208000] 25 (0, 0))) ∧ Aside0 (Below w.heap.size w w'))
  case atStart => exact ⟨(0), (t204), (.slice Ao6 t204.length co6), rfl, H', ⟨Nat.le_refl _⟩, ⟨by (with_reducible repeat (first | apply Kd.R_alloc | apply Kd.R_drewN | apply Kd.R_drew)); exact Kd.R_mono (Kd.R_far (p := ⟨gb207, 0, none⟩) (Kd.R_types HO206.out BK207.out (by decide)) (fun _ hk => hk.2) (.slice Ao6 t204.length co6)) (fun _ hk => trivial)⟩, ⟨by (with_reducible repeat (first | refine blk_drewN ?_ _ | refine blk_drew ?_ | refine blk_alloc ?_ _)); refine blk_far ?_ NB203_207.out _; (with_reducible repeat (first | refine blk_drewN ?_ _ | refine blk_drew ?_ | refine blk_alloc ?_ _)); exact BK203.out⟩, ⟨by (with_reducible repeat (first | refine blk_drewN ?_ _ | refine blk_drew ?_ | refine blk_alloc ?_ _)); refine blk_put (cs := #[.slice none 0 0]) ?_ 0 _ rfl; (with_reducible repeat (first | refine blk_drewN ?_ _ | refine blk_drew ?_ | refine blk_alloc ?_ _)); exact BK207.out⟩, ⟨by repeat (first | (with_reducible first | exact HB.out | apply below_alloc | apply pw_below_drewN | apply below_drew1 | refine below_set ?_ GE203.out | refine below_set ?_ GE207.out) | exact HB.out)⟩⟩
  case round =>
    clear H'
    try clear c2
    try clear p2
    try clear c7
    try clear hcz8_0
    try clear hfz8_0
    obtain ⟨x9_1, x208000_1, u208000, rfl, HA, HK1, HO_208000, BK203, BK207, HB⟩ := hrel
    cases gk with
    | zero => exact absurd HA.out (by simp [times_All.l0])
    | succ k1 =>
      have H := HA.out
      clear HA
      simp only [times_All.l0] at H
      by_cases c9 : x9_1 < (l0.length : Int)
      rotate_left
      · rw [if_neg c9] at H
        have c9b0 : decide (x9_1 < (l0.length : Int)) = false := decide_eq_false c9
        clear c9
        obtain rfl := Option.some.inj H
        have hnb23 := NB207_203.out
        have hnc23 := NB203_207.out
        have hcz24_0 : wr.cell? ⟨gb207, 0, none⟩ = some (u208000) := (blk_cell BK207.out 0).trans rfl
        have hfz24_0 := blk_frozen BK207.out 0
        obtain ⟨Ao25, co25, eo25⟩ := Kd.R_slice HO_208000.out
        subst eo25
        have hcz26_0 : wr.cell? ⟨gb203, 0, none⟩ = some (.slice none 0 0) := (blk_cell BK203.out 0).trans rfl
        have hfz26_0 := blk_frozen BK203.out 0
        go_wp2
        refine bodyPost_ret (results_cell_row rfl _ _ gb203 25 #[.slice Ao25 x208000_1.length co25] (0, 0) _ rfl (by (with_reducible repeat (first | refine blk_drewN ?_ _ | refine blk_drew ?_ | refine blk_alloc ?_ _)); refine blk_put (cs := #[.slice none 0 0]) ?_ 0 _ rfl; (with_reducible repeat (first | refine blk_drewN ?_ _ | refine blk_drew ?_ | refine blk_alloc ?_ _)); exact BK203.out) Try.underlying25 rfl (by kernel_rfl)) rfl ?_
        exact ⟨_, rfl, by (with_reducible repeat (first | apply Kd.R_alloc | apply Kd.R_drewN | apply Kd.R_drew)); exact Kd.R_mono (Kd.R_far (p := ⟨gb203, 0, none⟩) (Kd.R_types HO_208000.out BK203.out (by decide)) (fun _ hk => hk.2) (.slice Ao25 x208000_1.length co25)) (fun _ hk => trivial), by repeat (first | (with_reducible first | exact HB.out | apply below_alloc | apply pw_below_drewN | apply below_drew1 | refine below_set ?_ GE203.out | refine below_set ?_ GE207.out) | exact HB.out)⟩

      rw [if_pos c9] at H
      have c9b0 : decide (x9_1 < (l0.length : Int)) = true := decide_eq_true c9
      clear c9
      by_cases c10 : 0 ≤ x9_1
      rotate_left
      · rw [if_neg c10] at H
        exact absurd H (by simp)
      rw [if_pos c10] at H
      have c10b0 : decide (0 ≤ x9_1) = true := decide_eq_true c10
      clear c10
      by_cases c11 : x9_1 < (l0.length : Int)
      rotate_left
      · rw [if_neg c11] at H
        exact absurd H (by simp)
      rw [if_pos c11] at H
      have c11b0 : decide (x9_1 < (l0.length : Int)) = true := decide_eq_true c11
      clear c11
      replace H := Option.bind_eq_some_iff.mp H
      obtain ⟨t210, A120, H⟩ := H
      have A12 := Aside0.mk A120
      clear A120
      have H' := Aside0.mk H
      clear H
      have p208 : 0 ≤ (x9_1 : Int) := of_decide_eq_true (by assumption)
      have q208 : x9_1 < (l0.length : Int) := of_decide_eq_true (by assumption)
      obtain ⟨ad208, A208_0, c208_0, e208, hx208_0, hl208_0, hi208_0⟩ := at_T25 HR0.out x9_1 p208 q208
      cases e208
      replace hx208_0 := (HB.out.cell (World.block_lt_of_cell? w _ hx208_0)).trans hx208_0
      have HR208_0 := Aside0.mk hi208_0
      have HC208_0 := Aside0.mk hl208_0
      clear hi208_0 hl208_0
      replace p208 := eq_true p208
      replace q208 := eq_true q208
      go_wp2_with (first | ((with_reducible refine gate_dst (N := 5) rfl ?_); refine box_event ?hg (N := 5) ?hd (cs := #[.slice none 0 0]) (t := 25) ?hr ?_; (case hd => rfl); (case hg => rfl); (case hr => first | (go_simp; done) | (go_simp; rfl)); intro gb209 hg w13 hbox hb; replace HO_208000 := Aside0.mk (Kd.R_below (by (with_reducible repeat (first | apply Kd.R_alloc | apply Kd.R_drewN | apply Kd.R_drew)); exact HO_208000.out) hb); have BK209 := Aside0.mk (hbox); have GW209 := Aside0.mk ((by rw [hg]; exact (below_size (by repeat (first | (with_reducible first | exact HB.out | apply below_alloc | apply pw_below_drewN | apply below_drew1 | refine below_set ?_ GE203.out | refine below_set ?_ GE207.out) | exact HB.out))) : w.heap.size ≤ gb209)); have GE209 := Aside0.mk ((by rw [hg]; exact (below_size (by repeat (first | (with_reducible first | exact HB.out | apply below_alloc | apply pw_below_drewN | apply below_drew1 | refine below_set ?_ GE203.out | refine below_set ?_ GE207.out) | exact HB.out))) : w.heap.size ≤ gb209)); replace HB := Aside0.mk (below_step (by repeat (first | (with_reducible first | exact HB.out | apply below_alloc | apply pw_below_drewN | apply below_drew1 | refine below_set ?_ GE203.out | refine below_set ?_ GE207.out) | exact HB.out)) hb); have NB203_209 := Aside0.mk ((by rw [hg]; exact Nat.ne_of_lt (blk_lt (g := gb203) (o := .cells #[.slice none 0 0] 25 (0, 0)) (by (with_reducible repeat (first | refine blk_drewN ?_ _ | refine blk_drew ?_ | refine blk_alloc ?_ _)); exact BK203.out)) : gb203 ≠ gb209)); have NB209_203 := Aside0.mk ((by rw [hg]; exact Nat.ne_of_gt (blk_lt (g := gb203) (o := .cells #[.slice none 0 0] 25 (0, 0)) (by (with_reducible repeat (first | refine blk_drewN ?_ _ | refine blk_drew ?_ | refine blk_alloc ?_ _)); exact BK203.out)) : gb209 ≠ gb203)); replace BK203 := Aside0.mk (blk_below (g := gb203) (o := .cells #[.slice none 0 0] 25 (0, 0)) (by (with_reducible repeat (first | refine blk_drewN ?_ _ | refine blk_drew ?_ | refine blk_alloc ?_ _)); exact BK203.out) hb); have NB207_209 := Aside0.mk ((by rw [hg]; exact Nat.ne_of_lt (blk_lt (g := gb207) (o := .cells #[u208000] 25 (0, 0)) (by (with_reducible repeat (first | refine blk_drewN ?_ _ | refine blk_drew ?_ | refine blk_alloc ?_ _)); exact BK207.out)) : gb207 ≠ gb209)); have NB209_207 := Aside0.mk ((by rw [hg]; exact Nat.ne_of_gt (blk_lt (g := gb207) (o := .cells #[u208000] 25 (0, 0)) (by (with_reducible repeat (first | refine blk_drewN ?_ _ | refine blk_drew ?_ | refine blk_alloc ?_ _)); exact BK207.out)) : gb209 ≠ gb207)); replace BK207 := Aside0.mk (blk_below (g := gb207) (o := .cells #[u208000] 25 (0, 0)) (by (with_reducible repeat (first | refine blk_drewN ?_ _ | refine blk_drew ?_ | refine blk_alloc ?_ _)); exact BK207.out) hb); clear hb hbox hg; have hnb14 := NB209_203.out; have hnc14 := NB203_209.out; have hnb15 := NB209_207.out; have hnc15 := NB207_209.out; have hcz16_0 : w13.cell? ⟨gb209, 0, none⟩ = some (.slice none 0 0) := (blk_cell BK209.out 0).trans rfl; have hfz16_0 := blk_frozen BK209.out 0; have hnb17 := NB207_203.out; have hnc17 := NB203_207.out; have hcz18_0 : w13.cell? ⟨gb207, 0, none⟩ = some (u208000) := (blk_cell BK207.out 0).trans rfl; have hfz18_0 := blk_frozen BK207.out 0; obtain ⟨Ao19, co19, eo19⟩ := Kd.R_slice HO_208000.out; subst eo19) | ((with_reducible refine gate_callee (f := 24) rfl ?_); refine goesL_ (some 15) rfl rfl Try.func24 (by kernel_rfl) rfl #[.agg #[.slice Ao19 x208000_1.length co19], .agg #[.slice A208_0 ((rd_T25 l0 x9_1).f0).length c208_0]] rfl (by (try simp only [List.map_toArray, List.map_cons, List.map_nil]); first | done | rfl | (simp only [List.length_drop, List.length_take]; rfl)) ?_; (with_reducible refine (times_Mul.calls k1 _ _ x208000_1 _ _ ((rd_T25 l0 x9_1).f0) t210 _ ?side1 ?side2 ?side3 ?side4 A12.out).mono ?_); (case side1 => exact (Kd.R_reads' (e := 23) (base := w.heap.size) (n := x208000_1.length) (c := co19) (by (with_reducible repeat (first | apply Kd.R_alloc | apply Kd.R_drewN | apply Kd.R_drew)); exact (Kd.R_mono (Kd.R_far (p := ⟨gb209, 0, none⟩) (Kd.R_types HO_208000.out BK209.out (by decide)) (fun _ hk => hk.2) (.slice A208_0 ((rd_T25 l0 x9_1).f0).length c208_0)) (fun _ h_ => h_.1)))).2.2); (case side2 => exact (Kd.R_reads' HO_208000.out).2.1); (case side3 => exact Kd.C_below HR208_0.out (by repeat (first | (with_reducible first | exact HB.out | apply below_alloc | apply pw_below_drewN | apply below_drew1 | refine below_set ?_ GE203.out | refine below_set ?_ GE207.out | refine below_set ?_ GE209.out) | exact HB.out))); (case side4 => exact HC208_0.out); rintro e w20 ⟨v211, rfl, ho0, hb⟩; refine ⟨_, rfl, ?_⟩; have HO212 := Aside0.mk (Kd.R_lower (Kd.R_new' ho0 (Kd.R_lt (by (with_reducible repeat (first | apply Kd.R_alloc | apply Kd.R_drewN | apply Kd.R_drew)); exact (Kd.R_mono (Kd.R_far (p := ⟨gb209, 0, none⟩) (Kd.R_types HO_208000.out BK209.out (by decide)) (fun _ hk => hk.2) (.slice A208_0 ((rd_T25 l0 x9_1).f0).length c208_0)) (fun _ h_ => h_.1))))) (below_size (by repeat (first | (with_reducible first | exact HB.out | apply below_alloc | apply pw_below_drewN | apply below_drew1 | refine below_set ?_ GE203.out | refine below_set ?_ GE207.out | refine below_set ?_ GE209.out) | exact HB.out)))); replace HO_208000 := Aside0.mk (Kd.R_elder' (by (with_reducible repeat (first | apply Kd.R_alloc | apply Kd.R_drewN | apply Kd.R_drew)); exact (Kd.R_mono (Kd.R_far (p := ⟨gb209, 0, none⟩) (Kd.R_types HO_208000.out BK209.out (by decide)) (fun _ hk => hk.2) (.slice A208_0 ((rd_T25 l0 x9_1).f0).length c208_0)) (fun _ h_ => h_.1))) (Kd.R_base ho0) hb); replace BK203 := Aside0.mk (blk_below (g := gb203) (o := .cells #[.slice none 0 0] 25 (0, 0)) (by (with_reducible repeat (first | refine blk_drewN ?_ _ | refine blk_drew ?_ | refine blk_alloc ?_ _)); refine blk_far ?_ NB203_209.out _; (with_reducible repeat (first | refine blk_drewN ?_ _ | refine blk_drew ?_ | refine blk_alloc ?_ _)); exact BK203.out) hb); replace BK207 := Aside0.mk (blk_below (g := gb207) (o := .cells #[.slice Ao19 x208000_1.length co19] 25 (0, 0)) (by (with_reducible repeat (first | refine blk_drewN ?_ _ | refine blk_drew ?_ | refine blk_alloc ?_ _)); refine blk_far ?_ NB207_209.out _; (with_reducible repeat (first | refine blk_drewN ?_ _ | refine blk_drew ?_ | refine blk_alloc ?_ _)); exact BK207.out) hb); replace BK209 := Aside0.mk (blk_below (g := gb209) (o := .cells #[.slice A208_0 ((rd_T25 l0 x9_1).f0).length c208_0] 25 (0, 0)) (by (with_reducible repeat (first | refine blk_drewN ?_ _ | refine blk_drew ?_ | refine blk_alloc ?_ _)); refine blk_put (cs := #[.slice none 0 0]) ?_ 0 _ rfl; (with_reducible repeat (first | refine blk_drewN ?_ _ | refine blk_drew ?_ | refine blk_alloc ?_ _)); exact BK209.out) hb); replace HB := Aside0.mk (below_step (by repeat (first | (with_reducible first | exact HB.out | apply below_alloc | apply pw_below_drewN | apply below_drew1 | refine below_set ?_ GE203.out | refine below_set ?_ GE207.out | refine below_set ?_ GE209.out) | exact HB.out)) hb); obtain ⟨Ao21, co21, eo21⟩ := Kd.R_slice HO212.out; subst eo21; have hcz22_0 : w20.cell? ⟨gb207, 0, none⟩ = some (.slice Ao19 x208000_1.length co19) := (blk_cell BK207.out 0).trans rfl; have hfz22_0 := blk_frozen BK207.out 0))
      go_roundg k1
      case measure => have := HK1.out; omega
      case rel => exact ⟨(wrap64 (x9_1 + 1)), (t210), (.slice Ao21 t210.length co21), rfl, H', ⟨by have := HK1.out; omega⟩, ⟨by (with_reducible repeat (first | apply Kd.R_alloc | apply Kd.R_drewN | apply Kd.R_drew)); exact Kd.R_mono (Kd.R_far (p := ⟨gb207, 0, none⟩) (Kd.R_types HO212.out BK207.out (by decide)) (fun _ hk => hk.2) (.slice Ao21 t210.length co21)) (fun _ hk => trivial)⟩, ⟨by (with_reducible repeat (first | refine blk_drewN ?_ _ | refine blk_drew ?_ | refine blk_alloc ?_ _)); refine blk_far ?_ NB203_207.out _; (with_reducible repeat (first | refine blk_drewN ?_ _ | refine blk_drew ?_ | refine blk_alloc ?_ _)); exact BK203.out⟩, ⟨by (with_reducible repeat (first | refine blk_drewN ?_ _ | refine blk_drew ?_ | refine blk_alloc ?_ _)); refine blk_put (cs := #[.slice Ao19 x208000_1.length co19]) ?_ 0 _ rfl; (with_reducible repeat (first | refine blk_drewN ?_ _ | refine blk_drew ?_ | refine blk_alloc ?_ _)); exact BK207.out⟩, ⟨by repeat (first | (with_reducible first | exact HB.out | apply below_alloc | apply pw_below_drewN | apply below_drew1 | refine below_set ?_ GE203.out | refine below_set ?_ GE207.out | refine below_set ?_ GE209.out) | exact HB.out)⟩⟩
end Go.Proofs.Ytcepdndhkidehaa.PA
end
section
namespace Go.Proofs.Ytcepdndhkidehaa.M
open Go.RowKit Go.Proofs.YtcepdndhkidehaaW.PrintWords Go.Proofs.YtcepdndhkidehaaW.PrintLast Go.Proofs.YtcepdndhkidehaaW.PrintMore Go.Proofs.Ytcepdndhkidehaa.PA
set_option linter.unusedVariables false
set_option linter.unusedSimpArgs false

/-! ### bit operations -/
theorem wrap_u64_nat {n : Nat} (h : n < 18446744073709551616) : IntKind.u64.wrap (n : Int) = (n : Int) := u64_id (by omega) (by omega)
theorem u32_def (x : Int) : IntKind.u32.wrap x = x % 4294967296 := by
  unfold IntKind.wrap
  simp [IntKind.signed, IntKind.bits]
theorem bits_or64 {a b : Nat} (ha : a < 18446744073709551616) (hb : b < 18446744073709551616) : Go.bits .or .u64 (a : Int) (b : Int) = ((a ||| b : Nat) : Int) := by
  unfold Go.bits
  have h1 : (BitVec.ofInt IntKind.u64.bits (a : Int)).toNat = a := by simp [IntKind.bits]; omega
  have h2 : (BitVec.ofInt IntKind.u64.bits (b : Int)).toNat = b := by simp [IntKind.bits]; omega
  simp only [BitVec.toNat_or, h1, h2]
  exact wrap_u64_nat (Nat.or_lt_two_pow (n := 64) ha hb)
theorem bits_and32 {a b : Nat} (ha : a < 4294967296) (hb : b < 4294967296) : Go.bits .and .u32 (a : Int) (b : Int) = ((a &&& b : Nat) : Int) := by
  unfold Go.bits
  have h1 : (BitVec.ofInt IntKind.u32.bits (a : Int)).toNat = a := by simp [IntKind.bits]; omega
  have h2 : (BitVec.ofInt IntKind.u32.bits (b : Int)).toNat = b := by simp [IntKind.bits]; omega
  have h3 : a &&& b < 2 ^ 32 := Nat.and_lt_two_pow (n := 32) a hb
  simp only [BitVec.toNat_and, h1, h2]
  exact (u32_def _).trans (Int.emod_eq_of_lt (by omega) (by omega))
theorem bits_or32 {a b : Nat} (ha : a < 4294967296) (hb : b < 4294967296) : Go.bits .or .u32 (a : Int) (b : Int) = ((a ||| b : Nat) : Int) := by
  unfold Go.bits
  have h1 : (BitVec.ofInt IntKind.u32.bits (a : Int)).toNat = a := by simp [IntKind.bits]; omega
  have h2 : (BitVec.ofInt IntKind.u32.bits (b : Int)).toNat = b := by simp [IntKind.bits]; omega
  have h3 : a ||| b < 2 ^ 32 := Nat.or_lt_two_pow (n := 32) ha hb
  simp only [BitVec.toNat_or, h1, h2]
  exact (u32_def _).trans (Int.emod_eq_of_lt (by omega) (by omega))
theorem bits_xor32 {a b : Nat} (ha : a < 4294967296) (hb : b < 4294967296) : Go.bits .xor .u32 (a : Int) (b : Int) = ((a ^^^ b : Nat) : Int) := by
  unfold Go.bits
  have h1 : (BitVec.ofInt IntKind.u32.bits (a : Int)).toNat = a := by simp [IntKind.bits]; omega
  have h2 : (BitVec.ofInt IntKind.u32.bits (b : Int)).toNat = b := by simp [IntKind.bits]; omega
  have h3 : a ^^^ b < 2 ^ 32 := Nat.xor_lt_two_pow (n := 32) ha hb
  simp only [BitVec.toNat_xor, h1, h2]
  exact (u32_def _).trans (Int.emod_eq_of_lt (by omega) (by omega))

/-! ### sums and differences of limbs -/
theorem add32_nat {a b c : Nat} (ha : a < 4294967296) (hb : b < 4294967296) (hc : c ≤ 1) : bits_Add32.f (a : Int) (b : Int) (c : Int) = some ((((a + b + c) % 4294967296 : Nat) : Int), (((a + b + c) / 4294967296 : Nat) : Int)) := by
  unfold bits_Add32.f
  rw [wrap_u64_nat (n := a) (by omega), wrap_u64_nat (n := b) (by omega), wrap_u64_nat (n := c) (by omega), show (a : Int) + (b : Int) = ((a + b : Nat) : Int) by omega, wrap_u64_nat (by omega), show ((a + b : Nat) : Int) + (c : Int) = ((a + b + c : Nat) : Int) by omega, wrap_u64_nat (by omega)]
  congr 2
  omega
/-- the greatest bit of a limb, of an operation on limbs -/
theorem top_and (a b : Nat) : (a &&& b) / 2147483648 = (a / 2147483648) &&& (b / 2147483648) := by
  have := Nat.shiftRight_and_distrib (a := a) (b := b) (i := 31)
  rw [Nat.shiftRight_eq_div_pow, Nat.shiftRight_eq_div_pow, Nat.shiftRight_eq_div_pow] at this
  exact this
theorem top_or (a b : Nat) : (a ||| b) / 2147483648 = (a / 2147483648) ||| (b / 2147483648) := by
  have := Nat.shiftRight_or_distrib (a := a) (b := b) (i := 31)
  rw [Nat.shiftRight_eq_div_pow, Nat.shiftRight_eq_div_pow, Nat.shiftRight_eq_div_pow] at this
  exact this
theorem top_xor (a b : Nat) : (a ^^^ b) / 2147483648 = (a / 2147483648) ^^^ (b / 2147483648) := by
  have := Nat.shiftRight_xor_distrib (a := a) (b := b) (i := 31)
  rw [Nat.shiftRight_eq_div_pow, Nat.shiftRight_eq_div_pow, Nat.shiftRight_eq_div_pow] at this
  exact this
theorem sub32_nat {a b c : Nat} (ha : a < 4294967296) (hb : b < 4294967296) (hc : c ≤ 1) : bits_Sub32.f (a : Int) (b : Int) (c : Int) = some (((if a < b + c then a + 4294967296 - b - c else a - b - c : Nat) : Int), ((if a < b + c then 1 else 0 : Nat) : Int)) := by
  unfold bits_Sub32.f
  obtain ⟨d, hd⟩ : ∃ d : Nat, d = (if a < b + c then a + 4294967296 - b - c else a - b - c) := ⟨_, rfl⟩
  have e1 : ((((a : Int) - (b : Int)) % 4294967296) - (c : Int)) % 4294967296 = (d : Int) := by rw [hd]; split <;> omega
  have hdl : d < 4294967296 := by rw [hd]; split <;> omega
  rw [e1, ← hd]
  have x1 := bits_xor32 (a := 4294967295) (by omega) ha
  have x2 := bits_xor32 ha hb
  have l1 : 4294967295 ^^^ a < 4294967296 := Nat.xor_lt_two_pow (n := 32) (by omega) ha
  have l2 : a ^^^ b < 4294967296 := Nat.xor_lt_two_pow (n := 32) ha hb
  have x3 := bits_xor32 (a := 4294967295) (by omega) l2
  have l3 : 4294967295 ^^^ (a ^^^ b) < 4294967296 := Nat.xor_lt_two_pow (n := 32) (by omega) l2
  have a1 := bits_and32 l1 hb
  have a2 := bits_and32 l3 hdl
  have l4 : (4294967295 ^^^ a) &&& b < 4294967296 := Nat.and_lt_two_pow (n := 32) _ hb
  have l5 : (4294967295 ^^^ (a ^^^ b)) &&& d < 4294967296 := Nat.and_lt_two_pow (n := 32) _ hdl
  have o1 := bits_or32 l4 l5
  rw [show (4294967295 : Int) = ((4294967295 : Nat) : Int) by rfl, x1, a1, x2, x3, a2, o1]
  have t : ((4294967295 ^^^ a) &&& b ||| (4294967295 ^^^ (a ^^^ b)) &&& d) / 2147483648 = if a < b + c then 1 else 0 := by
    rw [top_or, top_and, top_and, top_xor, top_xor, top_xor]
    have ta : a / 2147483648 = 0 ∨ a / 2147483648 = 1 := by omega
    have tb : b / 2147483648 = 0 ∨ b / 2147483648 = 1 := by omega
    have td : d / 2147483648 = 0 ∨ d / 2147483648 = 1 := by omega
    clear x1 x2 x3 a1 a2 o1 l1 l2 l3 l4 l5 e1
    by_cases hlt : a < b + c
    · rw [if_pos hlt] at hd ⊢
      rcases ta with ta | ta <;> rcases tb with tb | tb <;> rcases td with td | td <;> rw [ta, tb, td] <;> first | rfl | (exfalso; omega)
    · rw [if_neg hlt] at hd ⊢
      rcases ta with ta | ta <;> rcases tb with tb | tb <;> rcases td with td | td <;> rw [ta, tb, td] <;> first | rfl | (exfalso; omega)
  have t2 : (((4294967295 ^^^ a) &&& b ||| (4294967295 ^^^ (a ^^^ b)) &&& d : Nat) : Int) / 2147483648 = ((if a < b + c then 1 else 0 : Nat) : Int) := by rw [← t]; omega
  rw [t2]

/-! ### comparisons -/
/-! ### sums -/
/-! ### differences -/
end Go.Proofs.Ytcepdndhkidehaa.M
end
section
namespace Go.Proofs.Ytcepdndhkidehaa.M
open Go.RowKit Go.Proofs.YtcepdndhkidehaaW.PrintWords Go.Proofs.YtcepdndhkidehaaW.PrintLast Go.Proofs.YtcepdndhkidehaaW.PrintMore Go.Proofs.Ytcepdndhkidehaa.PA
set_option linter.unusedVariables false
set_option linter.unusedSimpArgs false

/-! ### the document's difference -/
theorem rsub_loop (a b : List Nat) (ha : Dg 10 a) (hb : Dg 10 b) (hw : a.length ≤ 1099511627776) (hlb : b.length ≤ a.length) (hge : val 10 b ≤ val 10 a) : ∀ (d c : Nat) (out : List Nat), out.length + d = a.length → c ≤ 1 → Dg 10 out → val 10 out + val 10 (b.take out.length) = val 10 (a.take out.length) + 10 ^ out.length * c →
    Ev (fun k => numeraryref02_Sub.l0 k (nl a) (nl b) (nl out) (c : Int) (out.length : Int)) (D (val 10 a - val 10 b)) := by
  intro d
  induction d with
  | zero =>
    intro c out ho hc hdo hv
    refine Ev.step (fun k => by rw [numeraryref02_Sub.l0]) ?_
    refine ev_neg (by rw [nl_length]; omega) ?_
    rw [List.take_of_length_le (by omega), List.take_of_length_le (by omega)] at hv
    have h1 := val_lt (by decide) hdo
    have hcz : c = 0 := by
      rcases Nat.eq_zero_or_pos c with h | h
      · exact h
      · have : c = 1 := by omega
        rw [this, Nat.mul_one] at hv
        omega
    rw [hcz, Nat.mul_zero, Nat.add_zero] at hv
    rw [show val 10 a - val 10 b = val 10 out by omega]
    exact (rtrim_val (by omega) hdo).bind (Ev.now _)
  | succ d ih =>
    intro c out ho hc hdo hv
    have hg := ha.gd (by decide) out.length
    have hg2 := hb.gd (by decide) out.length
    refine Ev.step (fun k => by rw [numeraryref02_Sub.l0]) ?_
    refine ev_pos (by rw [nl_length]; omega) (ev_some (rat_nl b out.length) (ev_pos (by omega) ?_))
    rw [rd_nl]
    obtain ⟨g, hge1⟩ : ∃ g, gd a out.length = g := ⟨_, rfl⟩
    obtain ⟨g2, hge2⟩ : ∃ g, gd b out.length = g := ⟨_, rfl⟩
    rw [hge1] at hg ⊢
    rw [hge2] at hg2 ⊢
    rw [show wrap64 (wrap64 ((g : Int) - (g2 : Int)) - (c : Int)) = (g : Int) - (g2 : Int) - (c : Int) by rw [wrap_id (x := (g : Int) - (g2 : Int)) (by omega) (by omega), wrap_id] <;> omega]
    by_cases hlt : g < g2 + c
    · refine ev_pos (by omega) (ev_pos (by rw [nl_length]; omega) ?_)
      rw [show wrap64 ((g : Int) - (g2 : Int) - (c : Int) + 10) = ((g + 10 - g2 - c : Nat) : Int) by rw [wrap_id] <;> omega, succ_wrap (by omega), nl_snoc]
      have h := ih 1 (out ++ [g + 10 - g2 - c]) (by simp only [List.length_append, List.length_cons, List.length_nil]; omega) (by omega) (hdo.append (Dg.cons (by omega) (Dg.nil _)))
      rw [val_snoc, List.length_append, List.length_cons, List.length_nil, Nat.zero_add] at h
      refine h ?_
      rw [val_take_succ, val_take_succ, hge1, hge2, Nat.pow_succ]
      have e : (g + 10 - g2 - c) + g2 + c = g + 10 := by omega
      have e2 : 10 ^ out.length * (g + 10 - g2 - c) + 10 ^ out.length * g2 + 10 ^ out.length * c = 10 ^ out.length * g + 10 ^ out.length * 10 := by rw [← Nat.mul_add, ← Nat.mul_add, e, Nat.mul_add]
      omega
    · refine ev_neg (by omega) (ev_pos (by rw [nl_length]; omega) ?_)
      rw [show (g : Int) - (g2 : Int) - (c : Int) = ((g - g2 - c : Nat) : Int) by omega, succ_wrap (by omega), nl_snoc]
      have h := ih 0 (out ++ [g - g2 - c]) (by simp only [List.length_append, List.length_cons, List.length_nil]; omega) (by omega) (hdo.append (Dg.cons (by omega) (Dg.nil _)))
      rw [val_snoc, List.length_append, List.length_cons, List.length_nil, Nat.zero_add] at h
      refine h ?_
      rw [val_take_succ, val_take_succ, hge1, hge2, Nat.pow_succ]
      have e : (g - g2 - c) + g2 + c = g := by omega
      have e2 : 10 ^ out.length * (g - g2 - c) + 10 ^ out.length * g2 + 10 ^ out.length * c = 10 ^ out.length * g := by rw [← Nat.mul_add, ← Nat.mul_add, e]
      omega
theorem rsub_D {m n : Nat} (hl : dn m ≤ 1099511627776) (h : n ≤ m) : Ev (fun k => numeraryref02_Sub.f k (D m) (D n)) (D (m - n)) := by
  have h1 : dn n ≤ dn m := dg_len_mono b10 h
  have := rsub_loop (dg 10 m) (dg 10 n) (Dg_dg b10 m) (Dg_dg b10 n) hl h1 (by rw [val_dg b10, val_dg b10]; exact h) (dn m) 0 [] (by simp; rfl) (by omega) (Dg.nil _) (by simp [val])
  rw [val_dg b10, val_dg b10] at this
  exact this

/-! ### how long decimals are -/
theorem dn_le_ln (n : Nat) : dn n ≤ 10 * ln n := by
  refine (dg_len b10 n _).mpr ?_
  have h := dg_lt b32 n
  have h2 : 4294967296 ^ ln n ≤ 10 ^ (10 * ln n) := by rw [Nat.pow_mul]; exact Nat.pow_le_pow_left (by decide) _
  exact Nat.lt_of_lt_of_le h h2

theorem len_mul {B : Nat} (hB : 2 ≤ B) (a b : Nat) : (dg B (a * b)).length ≤ (dg B a).length + (dg B b).length := by
  refine (dg_len hB _ _).mpr ?_
  rw [Nat.pow_add]
  exact Nat.mul_lt_mul'' (dg_lt hB a) (dg_lt hB b)
theorem len_add {B : Nat} (hB : 2 ≤ B) (a b : Nat) : (dg B (a + b)).length ≤ max (dg B a).length (dg B b).length + 1 := by
  refine (dg_len hB _ _).mpr ?_
  have h1 := Nat.lt_of_lt_of_le (dg_lt hB a) (Nat.pow_le_pow_right (n := B) (by omega) (Nat.le_max_left _ (dg B b).length))
  have h2 := Nat.lt_of_lt_of_le (dg_lt hB b) (Nat.pow_le_pow_right (n := B) (by omega) (Nat.le_max_right (dg B a).length _))
  rw [Nat.pow_succ]
  have := Nat.mul_le_mul_left (B ^ max (dg B a).length (dg B b).length) hB
  omega
theorem dn_mul (a b : Nat) : dn (a * b) ≤ dn a + dn b := len_mul b10 a b
theorem dn_add (a b : Nat) : dn (a + b) ≤ max (dn a) (dn b) + 1 := len_add b10 a b
theorem ln_mono {a b : Nat} (h : a ≤ b) : ln a ≤ ln b := dg_len_mono b32 h
theorem dn_mono {a b : Nat} (h : a ≤ b) : dn a ≤ dn b := dg_len_mono b10 h
theorem dn_small {n : Nat} (h : n < 18446744073709551616) : dn n ≤ 20 := (dg_len b10 n 20).mpr (by omega)
theorem ln_val {l : List Nat} (hd : Dg 4294967296 l) : ln (val 4294967296 l) ≤ l.length := (dg_len b32 _ _).mpr (val_lt (by decide) hd)
/-! ### numbers of limbs -/
theorem rmade_loop (l : List Nat) (hd : Dg 4294967296 l) (hl : l.length ≤ 1073741824) : ∀ i, i ≤ l.length → Ev (fun k => numeraryref02_Made.l0 k (nl l) (D (val 4294967296 (l.drop i))) ((i : Int) - 1)) (D (val 4294967296 l)) := by
  intro i
  induction i with
  | zero =>
    intro hi
    refine Ev.step (fun k => by rw [numeraryref02_Made.l0]) ?_
    exact ev_neg (by omega) (ev_now (by rw [List.drop_zero]))
  | succ i ih =>
    intro hi
    rw [show (((i + 1 : Nat) : Int) - 1) = (i : Int) by omega]
    refine Ev.step (fun k => by rw [numeraryref02_Made.l0]) ?_
    refine ev_pos (by omega) ?_
    have hv := val_lt (by decide) (hd.drop (i + 1))
    have hln : dn (val 4294967296 (l.drop (i + 1))) ≤ 10 * l.length := by
      refine Nat.le_trans (dn_le_ln _) (Nat.mul_le_mul_left _ ?_)
      refine (dg_len b32 _ _).mpr (Nat.lt_of_lt_of_le hv (Nat.pow_le_pow_right (by decide) ?_))
      rw [List.length_drop]; omega
    have hg := hd.gd (by decide) i
    refine Ev.bind (rtimes_D (by omega) (by decide)) (ev_pos (by omega) (ev_pos (by rw [nl_length]; omega) ?_))
    rw [rd_nl, wrap_u64_nat (by omega)]
    refine Ev.bind (rof_val (by omega)) ?_
    have hln2 : dn (val 4294967296 (l.drop (i + 1)) * 4294967296) ≤ 549755813888 := by
      have h1 := dn_mul (val 4294967296 (l.drop (i + 1))) 4294967296
      have h2 : dn 4294967296 ≤ 20 := dn_small (by decide)
      omega
    have hln3 : dn (gd l i) ≤ 549755813888 := by
      have := dn_small (n := gd l i) (by omega)
      omega
    refine Ev.bind (radd_D hln2 hln3) ?_
    have := ih (by omega)
    rw [val_drop _ _ _ (by omega), Nat.mul_comm, Nat.add_comm] at this
    rw [wrap_id (by omega) (by omega), Nat.mul_comm, Nat.mul_comm] at *
    rw [show val 4294967296 (List.drop (i + 1) l) * 4294967296 + gd l i = 4294967296 * val 4294967296 (List.drop (i + 1) l) + gd l i by rw [Nat.mul_comm]] at *
    exact this
theorem rmade_val {l : List Nat} (hd : Dg 4294967296 l) (hl : l.length ≤ 1073741824) : Ev (fun k => numeraryref02_Made.f k (nl l)) (D (val 4294967296 l)) := by
  have := rmade_loop l hd hl l.length (Nat.le_refl _)
  rw [List.drop_of_length_le (Nat.le_refl _)] at this
  refine Ev.congr (fun k => by unfold numeraryref02_Made.f; rw [nl_length, wrap_id (by omega) (by omega)]) ?_
  exact this
theorem rmade_L {n : Nat} (hl : ln n ≤ 1073741824) : Ev (fun k => numeraryref02_Made.f k (L n)) (D n) := by
  have := rmade_val (Dg_dg b32 n) hl
  rw [val_dg b32] at this
  exact this

/-! ### the document's product -/
/-! ### the program's product -/
/-! ### powers -/
/-! ### bits -/
def bl (n : Nat) : Nat := if n = 0 then 0 else n.log2 + 1
theorem bl_le (n k : Nat) : bl n ≤ k ↔ n < 2 ^ k := by
  unfold bl
  by_cases h : n = 0
  · subst h; simp; exact Nat.pow_pos (by decide)
  · rw [if_neg h, ← Nat.log2_lt h]; omega
theorem bl_lt (n : Nat) : n < 2 ^ bl n := (bl_le n _).mp (Nat.le_refl _)
theorem bl_ge {n : Nat} (h : 0 < n) : 2 ^ (bl n - 1) ≤ n := by
  rcases Nat.lt_or_ge n (2 ^ (bl n - 1)) with h1 | h1
  · have := (bl_le n _).mpr h1
    have h2 : 0 < bl n := by unfold bl; rw [if_neg (by omega)]; omega
    omega
  · exact h1
theorem bl_eq {n k : Nat} (h1 : 2 ^ k ≤ n) (h2 : n < 2 ^ (k + 1)) : bl n = k + 1 := by
  have h3 := (bl_le n (k + 1)).mpr h2
  have h4 : ¬ bl n ≤ k := fun h => by have := (bl_le n k).mp h; omega
  omega
theorem bl_zero : bl 0 = 0 := rfl
theorem bl_pos {n : Nat} (h : 0 < n) : 0 < bl n := by unfold bl; rw [if_neg (by omega)]; omega
theorem bl_shift {t low k : Nat} (ht : 0 < t) (hl : low < 2 ^ k) : bl (low + 2 ^ k * t) = k + bl t := by
  have h1 := bl_ge ht
  have h2 := bl_lt t
  have h3 := bl_pos ht
  obtain ⟨b, hb⟩ : ∃ b, bl t = b + 1 := ⟨bl t - 1, by omega⟩
  rw [hb] at h1 h2 ⊢
  rw [Nat.add_sub_cancel] at h1
  refine bl_eq (k := k + b) ?_ ?_
  · rw [Nat.pow_add]
    have := Nat.mul_le_mul_left (2 ^ k) h1
    omega
  · rw [show k + b + 1 = k + (b + 1) by omega, Nat.pow_add]
    have := Nat.mul_le_mul_left (2 ^ k) (Nat.succ_le_of_lt h2)
    rw [Nat.succ_eq_add_one, Nat.mul_add] at this
    omega
def lenTab : ByteArray := (⟨#[0, 1, 2, 2, 3, 3, 3, 3, 4, 4, 4, 4, 4, 4, 4, 4, 5, 5, 5, 5, 5, 5, 5, 5, 5, 5, 5, 5, 5, 5, 5, 5, 6, 6, 6, 6, 6, 6, 6, 6, 6, 6, 6, 6, 6, 6, 6, 6, 6, 6, 6, 6, 6, 6, 6, 6, 6, 6, 6, 6, 6, 6, 6, 6, 7, 7, 7, 7, 7, 7, 7, 7, 7, 7, 7, 7, 7, 7, 7, 7, 7, 7, 7, 7, 7, 7, 7, 7, 7, 7, 7, 7, 7, 7, 7, 7, 7, 7, 7, 7, 7, 7, 7, 7, 7, 7, 7, 7, 7, 7, 7, 7, 7, 7, 7, 7, 7, 7, 7, 7, 7, 7, 7, 7, 7, 7, 7, 7, 8, 8, 8, 8, 8, 8, 8, 8, 8, 8, 8, 8, 8, 8, 8, 8, 8, 8, 8, 8, 8, 8, 8, 8, 8, 8, 8, 8, 8, 8, 8, 8, 8, 8, 8, 8, 8, 8, 8, 8, 8, 8, 8, 8, 8, 8, 8, 8, 8, 8, 8, 8, 8, 8, 8, 8, 8, 8, 8, 8, 8, 8, 8, 8, 8, 8, 8, 8, 8, 8, 8, 8, 8, 8, 8, 8, 8, 8, 8, 8, 8, 8, 8, 8, 8, 8, 8, 8, 8, 8, 8, 8, 8, 8, 8, 8, 8, 8, 8, 8, 8, 8, 8, 8, 8, 8, 8, 8, 8, 8, 8, 8, 8, 8, 8, 8, 8, 8, 8, 8, 8, 8, 8, 8, 8, 8, 8, 8]⟩ : ByteArray)
theorem len32_def (a : Int) : bits_Len32.f a = if a ≥ 65536 then (if (a / 65536) ≥ 256 then (if 0 ≤ (((a / 65536) / 256) % 256) then (if (((a / 65536) / 256) % 256) < 256 then (some (wrap64 ((16 + 8) + (wrap64 (bt lenTab (((a / 65536) / 256) % 256)))))) else (none)) else (none)) else (if 0 ≤ ((a / 65536) % 256) then (if ((a / 65536) % 256) < 256 then (some (wrap64 (16 + (wrap64 (bt lenTab ((a / 65536) % 256)))))) else (none)) else (none))) else (if a ≥ 256 then (if 0 ≤ ((a / 256) % 256) then (if ((a / 256) % 256) < 256 then (some (wrap64 ((0 + 8) + (wrap64 (bt lenTab ((a / 256) % 256)))))) else (none)) else (none)) else (if 0 ≤ ((a) % 256) then (if ((a) % 256) < 256 then (some (wrap64 (0 + (wrap64 (bt lenTab ((a) % 256)))))) else (none)) else (none))) := rfl
theorem lenTab_at (j : Nat) (h : j < 256) : bt lenTab (j : Int) = (bl j : Int) := by
  have : ∀ j : Fin 256, bt lenTab (j.val : Int) = (bl j.val : Int) := by decide +kernel
  exact this ⟨j, h⟩
theorem len32 {a : Nat} (ha : a < 4294967296) : bits_Len32.f (a : Int) = some ((bl a : Nat) : Int) := by
  have key : ∀ (s t : Nat), t < 256 → (s = 0 ∨ 0 < t) → s ≤ 24 → a / 2 ^ s = t → (bl a : Int) = (s : Int) + (bl t : Int) := by
    intro s t ht h hs hat
    have hm := Nat.mod_add_div a (2 ^ s)
    rw [hat] at hm
    rcases h with rfl | h
    · rw [Nat.pow_zero] at hat; rw [← hat, Nat.div_one]; omega
    · have := bl_shift h (Nat.mod_lt a (Nat.pow_pos (n := s) (by decide : 0 < 2)))
      rw [hm] at this
      omega
  rw [len32_def]
  by_cases h1 : 65536 ≤ a
  · rw [if_pos (by omega)]
    by_cases h2 : 16777216 ≤ a
    · have e : (a : Int) / 65536 / 256 % 256 = ((a / 16777216 : Nat) : Int) := by omega
      rw [if_pos (by omega), e, if_pos (by omega), if_pos (by omega), lenTab_at _ (by omega), key 24 (a / 16777216) (by omega) (.inr (by omega)) (by omega) rfl]
      have := (bl_le (a / 16777216) 8).mpr (by omega)
      rw [wrap_nat (by omega), wrap_id (by omega) (by omega)]; rfl
    · have e : (a : Int) / 65536 % 256 = ((a / 65536 : Nat) : Int) := by omega
      rw [if_neg (by omega), e, if_pos (by omega), if_pos (by omega), lenTab_at _ (by omega), key 16 (a / 65536) (by omega) (.inr (by omega)) (by omega) rfl]
      have := (bl_le (a / 65536) 8).mpr (by omega)
      rw [wrap_nat (by omega), wrap_id (by omega) (by omega)]; rfl
  · rw [if_neg (by omega)]
    by_cases h2 : 256 ≤ a
    · have e : (a : Int) / 256 % 256 = ((a / 256 : Nat) : Int) := by omega
      rw [if_pos (by omega), e, if_pos (by omega), if_pos (by omega), lenTab_at _ (by omega), key 8 (a / 256) (by omega) (.inr (by omega)) (by omega) rfl]
      have := (bl_le (a / 256) 8).mpr (by omega)
      rw [wrap_nat (by omega), wrap_id (by omega) (by omega)]; rfl
    · have e : (a : Int) % 256 = (a : Int) := by omega
      rw [if_neg (by omega), e, if_pos (by omega), if_pos (by omega), lenTab_at _ (by omega)]
      have := (bl_le a 8).mpr (by omega)
      rw [wrap_nat (by omega), wrap_id (by omega) (by omega), Int.zero_add]
theorem nbits {n : Nat} (hl : ln n ≤ 1099511627776) : nat_Nat_Bits.f (L n) = some ((bl n : Nat) : Int) := by
  unfold nat_Nat_Bits.f
  rw [L_length]
  rcases Nat.eq_zero_or_pos n with rfl | hn
  · rfl
  · have h0 : 0 < ln n := by unfold ln; rw [dg_pos b32 hn]; simp
    obtain ⟨m, hm⟩ : ∃ m, ln n = m + 1 := ⟨ln n - 1, by omega⟩
    have hdl : (dg 4294967296 n).length = m + 1 := hm
    rw [hm, if_neg (by omega), pred_wrap (by omega), if_pos (by omega), if_pos (by omega)]
    unfold L
    have hg := (Dg_dg b32 n).gd (by decide) m
    rw [rd_nl, len32 hg, Option.bind_some, show (32 : Int) * (m : Int) = ((32 * m : Nat) : Int) by omega, wrap_nat (by omega)]
    have h1 := dg_last b32 hn
    rw [hdl, Nat.add_sub_cancel] at h1
    have h2 := val_split 4294967296 (dg 4294967296 n) m (by omega)
    rw [val_drop _ _ _ (by omega), List.drop_of_length_le (by omega), val_dg b32] at h2
    have h3 := val_lt (by decide) ((Dg_dg b32 n).take m)
    rw [List.length_take, Nat.min_eq_left (by omega)] at h3
    have e : (4294967296 : Nat) ^ m = 2 ^ (32 * m) := by rw [Nat.pow_mul]
    rw [e] at h2 h3
    have h4 := bl_shift h1 h3
    rw [show val 4294967296 [] = 0 from rfl, Nat.mul_zero, Nat.add_zero] at h2
    rw [← h2] at h4
    have h5 := (bl_le (gd (dg 4294967296 n) m) 32).mpr hg
    rw [wrap_add (by omega), h4]

/-! ### small values -/
end Go.Proofs.Ytcepdndhkidehaa.M
end
section
namespace Go.Proofs.Ytcepdndhkidehaa.M
open Go.RowKit Go.Proofs.YtcepdndhkidehaaW.PrintWords Go.Proofs.YtcepdndhkidehaaW.PrintLast Go.Proofs.YtcepdndhkidehaaW.PrintMore Go.Proofs.Ytcepdndhkidehaa.PA
set_option linter.unusedVariables false
set_option linter.unusedSimpArgs false
theorem wf_u32 {x : Int} (h : (Lit.int .u32 x).wf = true) : 0 ≤ x ∧ x < 4294967296 := by
  simp [Lit.wf, IntKind.min, IntKind.max, IntKind.signed, IntKind.bits] at h
  omega
theorem limbs_in {l : List Int} (h : ∀ x ∈ l, (Lit.int .u32 x).wf = true) : ∃ t : List Nat, l = nl t ∧ Dg 4294967296 t := by
  refine ⟨l.map Int.toNat, toNl fun x hx => (wf_u32 (h x hx)).1, fun y hy => ?_⟩
  obtain ⟨x, hx, rfl⟩ := List.mem_map.mp hy
  have := wf_u32 (h x hx)
  omega
theorem few_of {l : List Nat} (n : Nat) {N : Int} (hN : N = (n : Int)) : (nl l).take ((mn ((nl l).length : Int) N) : Int).toNat = nl (l.take n) ∧ 0 ≤ mn ((nl l).length : Int) N ∧ mn ((nl l).length : Int) N ≤ ((nl l).length : Int) := by
  subst hN
  rw [nl_length]
  unfold mn
  refine ⟨?_, ?_, ?_⟩
  · split
    · rw [Int.toNat_natCast, nl_take]
    · rw [Int.toNat_natCast, nl_take, List.take_of_length_le (Nat.le_refl _), List.take_of_length_le (by omega)]
  · split <;> omega
  · split <;> omega
theorem cmpI_self (m : Nat) : cmpI m m = 0 := by unfold cmpI; rw [if_neg (Nat.lt_irrefl _), if_neg (Nat.lt_irrefl _)]
theorem cmpI_lt {m n : Nat} : cmpI m n < 0 ↔ m < n := by unfold cmpI; split <;> (try split) <;> omega
theorem num_in {l : List Int} (h : ∀ x ∈ l, (Lit.int .u32 x).wf = true) : ∃ s : List Nat, l = nl s ∧ ∀ n, n ≤ 1000 → ∃ a, ln a ≤ n ∧ Ev (fun k => nat_Made.f k (nl (s.take n))) (L a) ∧ Ev (fun k => numeraryref02_Made.f k (nl (s.take n))) (D a) := by
  obtain ⟨s, rfl, hs⟩ := limbs_in h
  refine ⟨s, rfl, fun n hn => ?_⟩
  have h1 : (s.take n).length ≤ n := List.length_take_le _ _
  have h2 := hs.take n
  exact ⟨val 4294967296 (s.take n), Nat.le_trans (ln_val h2) h1, made_val (by omega) h2, rmade_val h2 (by omega)⟩
end Go.Proofs.Ytcepdndhkidehaa.M
end
section
namespace Go.Proofs.Ytcepdndhkidehaa.M
open Go.RowKit Go.Proofs.YtcepdndhkidehaaW.PrintWords Go.Proofs.YtcepdndhkidehaaW.PrintLast Go.Proofs.YtcepdndhkidehaaW.PrintMore Go.Proofs.Ytcepdndhkidehaa.PA
set_option linter.unusedVariables false
set_option linter.unusedSimpArgs false

theorem or_add {a b : Nat} (hb : b < 4294967296) : 4294967296 * a ||| b = 4294967296 * a + b := (Nat.two_pow_add_eq_or_of_lt (i := 32) hb a).symm
theorem two_limbs {h l : Nat} (hh : h < 4294967296) (hl : l < 4294967296) : Go.bits .or .u64 (IntKind.u64.wrap ((IntKind.u64.wrap (h : Int)) * 4294967296)) (IntKind.u64.wrap (l : Int)) = ((4294967296 * h + l : Nat) : Int) := by
  rw [wrap_u64_nat (n := h) (by omega), wrap_u64_nat (n := l) (by omega), show (h : Int) * 4294967296 = ((4294967296 * h : Nat) : Int) by omega, wrap_u64_nat (by omega), bits_or64 (by omega) (by omega), or_add hl]
theorem tdiv_nat (a b : Nat) : Int.tdiv (a : Int) (b : Int) = ((a / b : Nat) : Int) := rfl
theorem tmod_nat (a b : Nat) : Int.tmod (a : Int) (b : Int) = ((a % b : Nat) : Int) := rfl
theorem div32_nat {h l d : Nat} (hd : h < d) (hd2 : d < 4294967296) (hl : l < 4294967296) : bits_Div32.f (h : Int) (l : Int) (d : Int) = some ((((4294967296 * h + l) / d : Nat) : Int), (((4294967296 * h + l) % d : Nat) : Int)) := by
  have hq : (4294967296 * h + l) / d < 4294967296 := by
    rw [Nat.div_lt_iff_lt_mul (by omega)]
    have := Nat.mul_le_mul_left 4294967296 (Nat.succ_le_of_lt hd)
    rw [Nat.succ_eq_add_one, Nat.mul_add] at this
    omega
  have hr : (4294967296 * h + l) % d < d := Nat.mod_lt _ (by omega)
  unfold bits_Div32.f
  rw [if_neg (by omega), if_neg (by omega), wrap_u64_nat (n := d) (by omega), if_neg (by omega), two_limbs (by omega) hl, tdiv_nat, tmod_nat, wrap_u64_nat (by omega)]
  generalize (4294967296 * h + l) / d = q at *
  generalize (4294967296 * h + l) % d = r at *
  congr 2 <;> omega

theorem small_loop (x : List Nat) (d : Nat) (hx : Dg 4294967296 x) (h0 : 0 < d) (hd : d < 4294967296) (hl : x.length ≤ 1099511627776) : ∀ (i : Nat) (q : List Nat), i ≤ x.length → q.length = x.length → Dg 4294967296 q → val 4294967296 (q.drop i) = val 4294967296 (x.drop i) / d →
    ∃ Q : List Nat, Q.length = x.length ∧ Dg 4294967296 Q ∧ val 4294967296 Q = val 4294967296 x / d ∧ Ev (fun k => quot_small.l0 k (nl x) (d : Int) (nl q) ((val 4294967296 (x.drop i) % d : Nat) : Int) ((i : Int) - 1)) (nl Q, ((val 4294967296 x % d : Nat) : Int)) := by
  intro i
  induction i with
  | zero =>
    intro q hi hq hdq hv
    refine ⟨q, hq, hdq, by simpa using hv, ?_⟩
    refine Ev.step (fun k => by rw [quot_small.l0]) ?_
    exact ev_neg (by omega) (ev_now (by rw [List.drop_zero]))
  | succ i ih =>
    intro q hi hq hdq hv
    have hg := hx.gd (by decide) i
    have hr : val 4294967296 (x.drop (i + 1)) % d < d := Nat.mod_lt _ h0
    have hdv := div32_nat hr hd hg
    have hxd := val_drop 4294967296 x i (by omega)
    have hm := Nat.mod_add_div (val 4294967296 (x.drop (i + 1))) d
    have e0 : val 4294967296 (x.drop i) = d * (4294967296 * (val 4294967296 (x.drop (i + 1)) / d)) + (4294967296 * (val 4294967296 (x.drop (i + 1)) % d) + gd x i) := by
      rw [hxd]
      generalize val 4294967296 (x.drop (i + 1)) / d = q0 at *
      generalize val 4294967296 (x.drop (i + 1)) % d = r0 at *
      rw [← hm, Nat.mul_left_comm d, Nat.mul_add]; omega
    have e1 : val 4294967296 (x.drop i) / d = 4294967296 * (val 4294967296 (x.drop (i + 1)) / d) + (4294967296 * (val 4294967296 (x.drop (i + 1)) % d) + gd x i) / d := by rw [e0, Nat.mul_add_div h0]
    have e2 : val 4294967296 (x.drop i) % d = (4294967296 * (val 4294967296 (x.drop (i + 1)) % d) + gd x i) % d := by rw [e0, Nat.mul_add_mod]
    have hql : (4294967296 * (val 4294967296 (x.drop (i + 1)) % d) + gd x i) / d < 4294967296 := by
      rw [Nat.div_lt_iff_lt_mul h0]
      have := Nat.mul_le_mul_left 4294967296 (Nat.succ_le_of_lt hr)
      rw [Nat.succ_eq_add_one, Nat.mul_add] at this
      omega
    obtain ⟨Q, h1, h2, h3, h4⟩ := ih (q.set i ((4294967296 * (val 4294967296 (x.drop (i + 1)) % d) + gd x i) / d)) (by omega) (by rw [List.length_set]; exact hq) (hdq.set i hql) (by
      rw [val_drop _ _ _ (by rw [List.length_set]; omega), drop_set_succ, hv, gd_set _ _ _ _ (by omega), if_pos rfl, e1]; omega)
    refine ⟨Q, h1, h2, h3, ?_⟩
    rw [show (((i + 1 : Nat) : Int) - 1) = (i : Int) by omega]
    refine Ev.step (fun k => by rw [quot_small.l0]) ?_
    refine ev_pos (by omega) (ev_pos (by omega) (ev_pos (by rw [nl_length]; omega) ?_))
    rw [rd_nl]
    refine ev_some hdv (ev_pos (by rw [nl_length]; omega) ?_)
    rw [Int.toNat_natCast, nl_set, wrap_id (by omega) (by omega), ← e2]
    exact h4
theorem qsmall {x : List Nat} {d : Nat} (hx : Dg 4294967296 x) (h0 : 0 < d) (hd : d < 4294967296) (hl : x.length ≤ 1099511627776) :
    ∃ Q : List Nat, Q.length = x.length ∧ Dg 4294967296 Q ∧ val 4294967296 Q = val 4294967296 x / d ∧ Ev (fun k => quot_small.f k (nl x) (d : Int)) (nl Q, ((val 4294967296 x % d : Nat) : Int)) := by
  obtain ⟨Q, h1, h2, h3, h4⟩ := small_loop x d hx h0 hd hl x.length (List.replicate x.length 0) (Nat.le_refl _) (by rw [List.length_replicate]) (Dg.replicate (by decide) _) (by rw [List.drop_of_length_le (by simp), List.drop_of_length_le (Nat.le_refl _)]; simp [val])
  refine ⟨Q, h1, h2, h3, ?_⟩
  rw [List.drop_of_length_le (Nat.le_refl _)] at h4
  refine Ev.congr (fun k => by unfold quot_small.f; rw [nl_length, Int.toNat_natCast, wrap_id (by omega) (by omega)]) ?_
  refine ev_pos (by omega) (ev_pos (by omega) ?_)
  rw [show List.replicate x.length (0 : Int) = nl (List.replicate x.length 0) from nl_replicate _ 0]
  rw [show val 4294967296 [] % d = 0 from Nat.zero_mod d] at h4
  exact h4

/-! ### shifts by less than a limb -/
theorem shl32 {v k : Nat} (hk : k < 32) : shl .u32 (v : Int) (k : Int) = ((v * 2 ^ k % 4294967296 : Nat) : Int) := by
  unfold shl
  rw [Int.toNat_natCast, show min k IntKind.u32.bits = k from Nat.min_eq_left (by show k ≤ 32; omega), u32_def, show (v : Int) * 2 ^ k = ((v * 2 ^ k : Nat) : Int) by rw [Int.natCast_mul, Int.natCast_pow]; rfl]
  rfl
theorem shl64 {v k : Nat} (hk : k < 32) (hv : v < 4294967296) : shl .u64 (IntKind.u64.wrap (v : Int)) (k : Int) = ((v * 2 ^ k : Nat) : Int) := by
  unfold shl
  have h1 : 2 ^ k ≤ 2 ^ 31 := Nat.pow_le_pow_right (by decide) (by omega)
  have h2 : v * 2 ^ k ≤ 4294967295 * 2 ^ 31 := Nat.mul_le_mul (by omega) h1
  rw [wrap_u64_nat (by omega), Int.toNat_natCast, show min k IntKind.u64.bits = k from Nat.min_eq_left (by show k ≤ 64; omega), show (v : Int) * 2 ^ k = ((v * 2 ^ k : Nat) : Int) by rw [Int.natCast_mul, Int.natCast_pow]; rfl, wrap_u64_nat (by omega)]
theorem or_low {c a k : Nat} (hc : c < 2 ^ k) : c ||| 2 ^ k * a = c + 2 ^ k * a := by
  rw [Nat.or_comm, ← Nat.two_pow_add_eq_or_of_lt hc a, Nat.add_comm]
theorem shl_low (v k : Nat) (hk : k < 32) : v * 2 ^ k % 4294967296 = 2 ^ k * (v % 2 ^ (32 - k)) := by
  have : (4294967296 : Nat) = 2 ^ k * 2 ^ (32 - k) := by rw [← Nat.pow_add, show k + (32 - k) = 32 by omega]
  rw [this, Nat.mul_comm v, Nat.mul_mod_mul_left]
theorem shifted_loop (x : List Nat) (k : Nat) (hx : Dg 4294967296 x) (hk : k < 32) (hl : x.length ≤ 1099511627776) : ∀ (d i : Nat) (out : List Nat), i + d = x.length → out.length = x.length + 1 → Dg 4294967296 out → (∀ j, i < j → gd out j = 0) → gd out i < 2 ^ k → val 4294967296 out = val 4294967296 (x.take i) * 2 ^ k →
    ∃ U : List Nat, U.length = x.length + 1 ∧ Dg 4294967296 U ∧ val 4294967296 U = val 4294967296 x * 2 ^ k ∧ Ev (fun r => quot_shifted.l0 r (k : Int) (nl out) (nl x) (x.length : Int) (i : Int)) (nl U) := by
  intro d
  induction d with
  | zero =>
    intro i out hi ho hd hz hc hv
    rw [List.take_of_length_le (by omega)] at hv
    refine ⟨out, ho, hd, hv, ?_⟩
    refine Ev.step (fun k => by rw [quot_shifted.l0]) ?_
    exact ev_neg (by omega) (Ev.now _)
  | succ d ih =>
    intro i out hi ho hd hz hc hv
    have hg := hx.gd (by decide) i
    have ho1 := hd.gd (by decide) i
    obtain ⟨v, hv1⟩ : ∃ v, gd x i = v := ⟨_, rfl⟩
    obtain ⟨c, hc1⟩ : ∃ c, gd out i = c := ⟨_, rfl⟩
    have hzz := hz (i + 1) (by omega)
    rw [hv1] at hg
    rw [hc1] at hc ho1
    have hpk : 2 ^ k ≤ 2 ^ 31 := Nat.pow_le_pow_right (by decide) (by omega)
    have hp0 : 0 < 2 ^ k := Nat.pow_pos (by decide)
    have hvk : v * 2 ^ k / 4294967296 < 2 ^ k := by
      rw [Nat.div_lt_iff_lt_mul (by decide), Nat.mul_comm]
      exact Nat.mul_lt_mul_of_pos_left hg hp0
    have hlow : c ||| v * 2 ^ k % 4294967296 = c + v * 2 ^ k % 4294967296 := by rw [shl_low v k hk, or_low hc]
    have hlt : c + v * 2 ^ k % 4294967296 < 4294967296 := by
      rw [← hlow]
      exact Nat.or_lt_two_pow (n := 32) ho1 (Nat.mod_lt _ (by decide))
    obtain ⟨U, h1, h2, h3, h4⟩ := ih (i + 1) ((out.set i (c + v * 2 ^ k % 4294967296)).set (i + 1) (v * 2 ^ k / 4294967296)) (by omega) (by rw [List.length_set, List.length_set]; exact ho) ((hd.set i hlt).set _ (by omega))
      (by
        intro j hj
        rw [gd_set _ _ _ _ (by rw [List.length_set]; omega), if_neg (by omega), gd_set _ _ _ _ (by omega), if_neg (by omega)]
        exact hz j (by omega))
      (by rw [gd_set _ _ _ _ (by rw [List.length_set]; omega), if_pos rfl]; exact hvk)
      (by
        have s1 := val_set 4294967296 out i (c + v * 2 ^ k % 4294967296) (by omega)
        have s2 := val_set 4294967296 (out.set i (c + v * 2 ^ k % 4294967296)) (i + 1) (v * 2 ^ k / 4294967296) (by rw [List.length_set]; omega)
        rw [gd_set _ _ _ _ (by omega), if_neg (by omega), hzz, Nat.mul_zero, Nat.add_zero] at s2
        rw [hc1, Nat.mul_add] at s1
        rw [s2, val_take_succ, hv1, Nat.add_mul, ← hv, Nat.mul_assoc]
        have hm := Nat.mod_add_div (v * 2 ^ k) 4294967296
        rw [Nat.pow_succ]
        generalize v * 2 ^ k % 4294967296 = md at *
        generalize v * 2 ^ k / 4294967296 = dv at *
        generalize v * 2 ^ k = vk at *
        generalize 4294967296 ^ i = P at *
        have e1 : P * (md + 4294967296 * dv) = P * vk := by rw [hm]
        rw [Nat.mul_add, ← Nat.mul_assoc] at e1
        omega)
    refine ⟨U, h1, h2, h3, ?_⟩
    refine Ev.step (fun k => by rw [quot_shifted.l0]) ?_
    refine ev_pos (by omega) (ev_pos (by omega) (ev_pos (by rw [nl_length]; omega) (ev_pos (by rw [nl_length]; omega) (ev_pos (by omega) ?_))))
    rw [succ_wrap (by omega)]
    refine ev_pos (by omega) (ev_pos (by rw [nl_length]; omega) ?_)
    rw [rd_nl, rd_nl, hv1, hc1, shl32 hk, shl64 hk hg, bits_or32 ho1 (Nat.mod_lt _ (by decide)), hlow, Int.toNat_natCast, Int.toNat_natCast, show (((v * 2 ^ k : Nat) : Int)) / 4294967296 % 4294967296 = ((v * 2 ^ k / 4294967296 : Nat) : Int) by generalize v * 2 ^ k = z at *; omega, nl_set, nl_set]
    exact h4
theorem qshifted {x : List Nat} {k : Nat} (hx : Dg 4294967296 x) (hk : k < 32) (hl : x.length ≤ 1099511627775) :
    ∃ U : List Nat, U.length = x.length + 1 ∧ Dg 4294967296 U ∧ val 4294967296 U = val 4294967296 x * 2 ^ k ∧ Ev (fun r => quot_shifted.f r (nl x) (k : Int)) (nl U) := by
  obtain ⟨U, h1, h2, h3, h4⟩ := shifted_loop x k hx hk (by omega) x.length 0 (List.replicate (x.length + 1) 0) (by omega) (by rw [List.length_replicate]) (Dg.replicate (by decide) _) (fun j _ => gd_replicate _ _) (by rw [gd_replicate]; exact Nat.pow_pos (by decide)) (by rw [val_replicate]; simp [val])
  refine ⟨U, h1, h2, h3, ?_⟩
  refine Ev.congr (fun k => by unfold quot_shifted.f; rw [nl_length, succ_wrap (by omega), Int.toNat_natCast]) ?_
  refine ev_pos (by omega) (ev_pos (by omega) ?_)
  rw [show List.replicate (x.length + 1) (0 : Int) = nl (List.replicate (x.length + 1) 0) from nl_replicate _ 0]
  exact h4

theorem shr32 {v k : Nat} (hk : k < 32) : shr .u32 (v : Int) (k : Int) = ((v / 2 ^ k : Nat) : Int) := by
  unfold shr
  rw [Int.toNat_natCast, show min k IntKind.u32.bits = k from Nat.min_eq_left (by show k ≤ 32; omega), Int.natCast_ediv, Int.natCast_pow]; rfl
theorem shr64 {v k : Nat} (hk : k < 32) : shr .u64 (v : Int) (k : Int) = ((v / 2 ^ k : Nat) : Int) := by
  unfold shr
  rw [Int.toNat_natCast, show min k IntKind.u64.bits = k from Nat.min_eq_left (by show k ≤ 64; omega), Int.natCast_ediv, Int.natCast_pow]; rfl
end Go.Proofs.Ytcepdndhkidehaa.M
end
section
namespace Go.Proofs.Ytcepdndhkidehaa.M
open Go.RowKit Go.Proofs.YtcepdndhkidehaaW.PrintWords Go.Proofs.YtcepdndhkidehaaW.PrintLast Go.Proofs.YtcepdndhkidehaaW.PrintMore Go.Proofs.Ytcepdndhkidehaa.PA
set_option linter.unusedVariables false
set_option linter.unusedSimpArgs false

/-- plain numbers: U of three top digits u3 and what is below, V of two, v, and what is below -/
theorem guess_low {U V P u3 v q : Nat} (hV : v * P ≤ V) (hU : U < (u3 + 1) * P) (h : q ≤ U / V) (hV0 : 0 < V) : q * v ≤ u3 := by
  have h1 : q * V ≤ U := by rw [← Nat.le_div_iff_mul_le hV0]; exact h
  have h2 : q * v * P ≤ q * V := by rw [Nat.mul_assoc]; exact Nat.mul_le_mul_left q hV
  have h3 : q * v * P < (u3 + 1) * P := by omega
  have := Nat.lt_of_mul_lt_mul_right h3
  omega
theorem guess_high {U V P u3 v q : Nat} (hV : V < (v + 1) * P) (hU : u3 * P ≤ U) (hq : q * v ≤ u3) (hqv : q ≤ v) (hV0 : 0 < V) : q ≤ U / V + 1 := by
  cases q with
  | zero => exact Nat.zero_le _
  | succ q =>
    have h1 : q * (v + 1) ≤ u3 := by
      have e1 : (q + 1) * v = q * v + v := Nat.succ_mul q v
      have e2 : q * (v + 1) = q * v + q := Nat.mul_succ q v
      omega
    have h2 : q * V ≤ U := by
      refine Nat.le_trans (Nat.mul_le_mul_left q (Nat.le_of_lt hV)) ?_
      rw [← Nat.mul_assoc]
      exact Nat.le_trans (Nat.mul_le_mul_right P h1) hU
    have := (Nat.le_div_iff_mul_le hV0).mpr h2
    omega

theorem guess_loop (u v : List Nat) (n : Nat) (hn : v.length = n + 2) (hu : u.length = n + 3) (hdu : Dg 4294967296 u) (hdv : Dg 4294967296 v) (v1 v2 u2 top Q : Nat) (hv1 : gd v (n + 1) = v1) (hv2 : gd v n = v2) (hu2 : gd u n = u2) (hb : n ≤ 1099511627776)
    (hlow : ∀ q, q ≤ Q → q * (4294967296 * v1 + v2) ≤ 4294967296 * top + u2) (hQ : Q < 4294967296) (htop : top < 4294967296 * v1 + 4294967296) :
    ∀ (q r : Nat), q * v1 + r = top → r < 4294967296 → Q ≤ q → q ≤ 4294967297 →
      ∃ q' r', q' < 4294967296 ∧ Q ≤ q' ∧ q' * v1 + r' = top ∧ q' * v2 ≤ 4294967296 * r' + u2 ∧ Ev (fun k => quot_guess.l0 k (nl u) (nl v) ((n + 2 : Nat) : Int) (q : Int) (r : Int)) (q' : Int) := by
  have bv1 := hdv.gd (by decide) (n + 1)
  have bv2 := hdv.gd (by decide) n
  have bu2 := hdu.gd (by decide) n
  rw [hv1] at bv1
  rw [hv2] at bv2
  rw [hu2] at bu2
  intro q
  induction q using Nat.strongRecOn with
  | _ q ih =>
    intro r hr hrb hqQ hqB
    -- one less
    have dec : Q < q → ∃ q' r', q' < 4294967296 ∧ Q ≤ q' ∧ q' * v1 + r' = top ∧ q' * v2 ≤ 4294967296 * r' + u2 ∧ Ev (fun k => quot_guess.j1 k (nl u) (nl v) ((n + 2 : Nat) : Int) (q : Int) (r : Int) true) (q' : Int) := by
      intro hlt
      obtain ⟨p, rfl⟩ : ∃ p, q = p + 1 := ⟨q - 1, by omega⟩
      have hp : p * v1 + (r + v1) = top := by
        have : (p + 1) * v1 = p * v1 + v1 := Nat.succ_mul p v1
        omega
      have e1 : wrap64 (((n + 2 : Nat) : Int) - 1) = ((n + 1 : Nat) : Int) := by rw [wrap_id] <;> omega
      have e2 : IntKind.u64.wrap ((r : Int) + IntKind.u64.wrap ((v1 : Nat) : Int)) = ((r + v1 : Nat) : Int) := by
        rw [wrap_u64_nat (by omega), show (r : Int) + (v1 : Int) = ((r + v1 : Nat) : Int) by omega, wrap_u64_nat (by omega)]
      have e3 : IntKind.u64.wrap (((p + 1 : Nat) : Int) - 1) = (p : Int) := by
        rw [show ((p + 1 : Nat) : Int) - 1 = (p : Int) by omega, wrap_u64_nat (by omega)]
      by_cases hbig : 4294967296 ≤ r + v1
      · have hpB : p < 4294967296 := by
          rcases Nat.lt_or_ge p 4294967296 with h | h
          · exact h
          · have := Nat.mul_le_mul_right v1 h
            omega
        refine ⟨p, r + v1, hpB, by omega, hp, ?_, ?_⟩
        · have h1 : p * v2 ≤ 4294967295 * 4294967295 := Nat.mul_le_mul (by omega) (by omega)
          omega
        · refine Ev.step (fun k => by rw [quot_guess.j1, e1]) ?_
          refine ev_pos rfl (ev_pos (by omega) (ev_pos (by rw [nl_length]; omega) ?_))
          rw [rd_nl, hv1, e2, e3]
          exact ev_pos (by omega) (Ev.now _)
      · obtain ⟨q', r', h1, h2, h3, h4, h5⟩ := ih p (by omega) (r + v1) hp (by omega) (by omega) (by omega)
        refine ⟨q', r', h1, h2, h3, h4, ?_⟩
        refine Ev.step (fun k => by rw [quot_guess.j1, e1]) ?_
        refine ev_pos rfl (ev_pos (by omega) (ev_pos (by rw [nl_length]; omega) ?_))
        rw [rd_nl, hv1, e2, e3]
        exact ev_neg (by omega) h5
    by_cases hqb : 4294967296 ≤ q
    · obtain ⟨q', r', h1, h2, h3, h4, h5⟩ := dec (by omega)
      refine ⟨q', r', h1, h2, h3, h4, ?_⟩
      refine Ev.step (fun k => by rw [quot_guess.l0]) ?_
      exact ev_pos (by omega) h5
    · have e1 : wrap64 (((n + 2 : Nat) : Int) - 2) = (n : Int) := by rw [wrap_id] <;> omega
      have hqv2 : q * v2 ≤ 4294967295 * 4294967295 := Nat.mul_le_mul (by omega) (by omega)
      have e2 : IntKind.u64.wrap ((q : Int) * IntKind.u64.wrap ((v2 : Nat) : Int)) = ((q * v2 : Nat) : Int) := by
        rw [wrap_u64_nat (by omega), show (q : Int) * (v2 : Int) = ((q * v2 : Nat) : Int) from (Int.natCast_mul q v2).symm, wrap_u64_nat (by omega)]
      have e3 : Go.bits .or .u64 (IntKind.u64.wrap ((r : Int) * 4294967296)) (IntKind.u64.wrap ((u2 : Nat) : Int)) = ((4294967296 * r + u2 : Nat) : Int) := by
        have := two_limbs hrb bu2
        rw [wrap_u64_nat (n := r) (by omega)] at this
        exact this
      have red : ∀ {x : Int}, Ev (fun k => quot_guess.j1 k (nl u) (nl v) ((n + 2 : Nat) : Int) (q : Int) (r : Int) (decide (((q * v2 : Nat) : Int) > ((4294967296 * r + u2 : Nat) : Int)))) x → Ev (fun k => quot_guess.l0 k (nl u) (nl v) ((n + 2 : Nat) : Int) (q : Int) (r : Int)) x := by
        intro x h
        refine Ev.step (fun k => by rw [quot_guess.l0, e1]) ?_
        refine ev_neg (by omega) (ev_pos (by omega) (ev_pos (by rw [nl_length]; omega) (ev_pos (by rw [nl_length]; omega) ?_)))
        rw [rd_nl, rd_nl, hv2, hu2, e2, e3]
        exact h
      by_cases hc : 4294967296 * r + u2 < q * v2
      · have hlt : Q < q := by
          rcases Nat.lt_or_ge Q q with h | h
          · exact h
          · have h1 := hlow q h
            rw [Nat.mul_add, Nat.mul_left_comm] at h1
            have h2 : 4294967296 * (q * v1) + 4294967296 * r = 4294967296 * top := by rw [← Nat.mul_add, hr]
            omega
        obtain ⟨q', r', h1, h2, h3, h4, h5⟩ := dec hlt
        refine ⟨q', r', h1, h2, h3, h4, red ?_⟩
        rw [show decide (((q * v2 : Nat) : Int) > ((4294967296 * r + u2 : Nat) : Int)) = true from decide_eq_true (by omega)]
        exact h5
      · refine ⟨q, r, by omega, hqQ, hr, by omega, red ?_⟩
        rw [show decide (((q * v2 : Nat) : Int) > ((4294967296 * r + u2 : Nat) : Int)) = false from decide_eq_false (by omega)]
        refine Ev.step (fun k => by rw [quot_guess.j1]) ?_
        exact ev_neg (by simp) (Ev.now _)
theorem qguess {u v : List Nat} {n : Nat} (hn : v.length = n + 2) (hu : u.length = n + 3) (hdu : Dg 4294967296 u) (hdv : Dg 4294967296 v) (hb : n ≤ 1099511627776) (htop : 2147483648 ≤ gd v (n + 1)) (hlt : val 4294967296 u < 4294967296 * val 4294967296 v) :
    ∃ q, q < 4294967296 ∧ val 4294967296 u / val 4294967296 v ≤ q ∧ q ≤ val 4294967296 u / val 4294967296 v + 1 ∧ Ev (fun k => quot_guess.f k (nl u) (nl v)) (q : Int) := by
  have bv1 := hdv.gd (by decide) (n + 1)
  have bv2 := hdv.gd (by decide) n
  have bu2 := hdu.gd (by decide) n
  have bu1 := hdu.gd (by decide) (n + 1)
  have bu0 := hdu.gd (by decide) (n + 2)
  have sv := val_split 4294967296 v n (by omega)
  rw [val_drop _ v n (by omega), val_drop _ v (n + 1) (by omega), List.drop_of_length_le (by omega)] at sv
  have su := val_split 4294967296 u n (by omega)
  rw [val_drop _ u n (by omega), val_drop _ u (n + 1) (by omega), val_drop _ u (n + 2) (by omega), List.drop_of_length_le (by omega)] at su
  simp only [val, Nat.mul_zero, Nat.add_zero] at sv su
  have lv := val_lt (by decide) (hdv.take n)
  have lu := val_lt (by decide) (hdu.take n)
  rw [List.length_take, Nat.min_eq_left (by omega)] at lv lu
  obtain ⟨v1, hv1⟩ : ∃ x, gd v (n + 1) = x := ⟨_, rfl⟩
  obtain ⟨v2, hv2⟩ : ∃ x, gd v n = x := ⟨_, rfl⟩
  obtain ⟨u2, hu2⟩ : ∃ x, gd u n = x := ⟨_, rfl⟩
  obtain ⟨u1, hu1⟩ : ∃ x, gd u (n + 1) = x := ⟨_, rfl⟩
  obtain ⟨u0, hu0⟩ : ∃ x, gd u (n + 2) = x := ⟨_, rfl⟩
  rw [hv1, hv2] at sv
  rw [hu2, hu1, hu0] at su
  rw [hv1] at bv1 htop
  rw [hv2] at bv2
  rw [hu2] at bu2
  rw [hu1] at bu1
  rw [hu0] at bu0
  obtain ⟨V, hV⟩ : ∃ x, val 4294967296 v = x := ⟨_, rfl⟩
  obtain ⟨U, hU⟩ : ∃ x, val 4294967296 u = x := ⟨_, rfl⟩
  rw [hV] at sv hlt ⊢
  rw [hU] at su hlt ⊢
  generalize val 4294967296 (v.take n) = a at *
  generalize val 4294967296 (u.take n) = c at *
  have hP0 : 0 < 4294967296 ^ n := Nat.pow_pos (by decide)
  generalize 4294967296 ^ n = P at *
  have hV1 : (4294967296 * v1 + v2) * P ≤ V := by rw [sv, Nat.mul_comm P, Nat.add_comm v2]; omega
  have hV2 : V < (4294967296 * v1 + v2 + 1) * P := by rw [sv, Nat.add_mul, Nat.one_mul, Nat.mul_comm P, Nat.add_comm v2]; omega
  have hU1 : (4294967296 * (4294967296 * u0 + u1) + u2) * P ≤ U := by rw [su, Nat.mul_comm P, show u2 + 4294967296 * (u1 + 4294967296 * u0) = 4294967296 * (4294967296 * u0 + u1) + u2 by omega]; omega
  have hU2 : U < (4294967296 * (4294967296 * u0 + u1) + u2 + 1) * P := by rw [show (4294967296 * (4294967296 * u0 + u1) + u2 + 1) * P = (4294967296 * (4294967296 * u0 + u1) + u2) * P + P from Nat.succ_mul _ _, su, Nat.mul_comm P, show u2 + 4294967296 * (u1 + 4294967296 * u0) = 4294967296 * (4294967296 * u0 + u1) + u2 by omega]; omega
  have hV0 : 0 < V := by
    refine Nat.lt_of_lt_of_le ?_ hV1
    exact Nat.mul_pos (by omega) hP0
  have hQ : U / V < 4294967296 := by rw [Nat.div_lt_iff_lt_mul hV0]; exact hlt
  have hu0v : u0 ≤ v1 := by
    rcases Nat.lt_or_ge v1 u0 with h | h
    · exfalso
      have h1 : 4294967296 * V ≤ U := by
        refine Nat.le_trans ?_ hU1
        refine Nat.le_trans (Nat.mul_le_mul_left 4294967296 (Nat.le_of_lt hV2)) ?_
        rw [← Nat.mul_assoc]
        exact Nat.mul_le_mul_right P (by omega)
      omega
    · exact h
  have htp : 4294967296 * u0 + u1 < 4294967296 * v1 + 4294967296 := by omega
  have hlow : ∀ q, q ≤ U / V → q * (4294967296 * v1 + v2) ≤ 4294967296 * (4294967296 * u0 + u1) + u2 := fun q hq => guess_low hV1 hU2 hq hV0
  have hv10 : 0 < v1 := by omega
  have hq0 : (4294967296 * u0 + u1) / v1 ≤ 4294967297 := by
    have h1 : (4294967296 * u0 + u1) / v1 < 4294967298 := by
      rw [Nat.div_lt_iff_lt_mul hv10]
      omega
    omega
  have hQq : U / V ≤ (4294967296 * u0 + u1) / v1 := by
    rw [Nat.le_div_iff_mul_le hv10]
    have h1 := hlow (U / V) (Nat.le_refl _)
    rw [Nat.mul_add, Nat.mul_left_comm] at h1
    omega
  obtain ⟨q', r', h1, h2, h3, h4, h5⟩ := guess_loop u v n hn hu hdu hdv v1 v2 u2 (4294967296 * u0 + u1) (U / V) hv1 hv2 hu2 hb hlow hQ htp ((4294967296 * u0 + u1) / v1) ((4294967296 * u0 + u1) % v1) (by have := Nat.div_add_mod (4294967296 * u0 + u1) v1; rw [Nat.mul_comm]; exact this) (by have := Nat.mod_lt (4294967296 * u0 + u1) hv10; omega) hQq hq0
  refine ⟨q', h1, h2, ?_, ?_⟩
  · refine guess_high hV2 hU1 ?_ (by omega) hV0
    rw [Nat.mul_add, Nat.mul_left_comm, ← h3, Nat.mul_add]
    omega
  · have e1 : wrap64 (((n + 2 : Nat) : Int) - 1) = ((n + 1 : Nat) : Int) := by rw [wrap_id] <;> omega
    refine Ev.congr (fun k => by unfold quot_guess.f; rw [nl_length, nl_length, hn, hu, e1]) ?_
    rw [rd_nl, rd_nl, rd_nl, hv1, hu0, hu1, wrap_u64_nat (n := v1) (by omega), two_limbs bu0 bu1, tdiv_nat, tmod_nat, wrap_u64_nat (by omega)]
    exact ev_pos (by omega) (ev_pos (by omega) (ev_pos (by omega) (ev_pos (by omega) (ev_pos (by omega) (ev_neg (by omega) h5)))))

/-! ### a digit times the divisor is taken off -/
theorem less_loop (v U : List Nat) (n q : Nat) (hn : v.length = n) (hU : U.length = n + 1) (hdv : Dg 4294967296 v) (hdU : Dg 4294967296 U) (hq : q < 4294967296) (hb : n ≤ 1099511627776) : ∀ (d i c b : Nat) (cur : List Nat), i + d = n → cur.length = n + 1 → Dg 4294967296 cur → c < 4294967296 → b ≤ 1 → cur.drop i = U.drop i → val 4294967296 (cur.take i) + q * val 4294967296 (v.take i) = val 4294967296 (U.take i) + 4294967296 ^ i * (c + b) →
    ∃ (R : List Nat) (e : Nat), R.length = n + 1 ∧ Dg 4294967296 R ∧ e ≤ 1 ∧ val 4294967296 R + q * val 4294967296 v = val 4294967296 U + 4294967296 ^ (n + 1) * e ∧ Ev (fun k => quot_less.l0 k (nl cur) (nl v) (q : Int) (c : Int) (b : Int) (nl v) (n : Int) (i : Int)) ((e : Int) == 1, nl R) := by
  have step : ∀ {c b x g : Nat}, c < 4294967296 → b ≤ 1 → x < 4294967296 → g < 4294967296 → (c + q * x) / 4294967296 < 4294967296 ∧ IntKind.u64.wrap ((c : Int) + (IntKind.u64.wrap ((q : Int) * (IntKind.u64.wrap (x : Int))))) = ((c + q * x : Nat) : Int) := by
    intro c b x g hc hb hx hg
    have hp : q * x ≤ 4294967295 * 4294967295 := Nat.mul_le_mul (by omega) (by omega)
    rw [wrap_u64_nat (n := x) (by omega), show (q : Int) * (x : Int) = ((q * x : Nat) : Int) from (Int.natCast_mul q x).symm]
    generalize q * x = p at *
    rw [wrap_u64_nat (by omega), show (c : Int) + (p : Int) = ((c + p : Nat) : Int) by omega, wrap_u64_nat (by omega)]
    exact ⟨by omega, rfl⟩
  intro d
  induction d with
  | zero =>
    intro i c b cur hi hc1 hdc hc hb1 hdr hv
    have hi : i = n := by omega
    subst hi
    have hg := hdc.gd (by decide) i
    have hgU : gd cur i = gd U i := by
      have h1 := gd_drop cur i 0
      have h2 := gd_drop U i 0
      rw [hdr, h2] at h1
      simpa using h1.symm
    have hs := sub32_nat hg hc hb1
    obtain ⟨g, hg1⟩ : ∃ x, gd cur i = x := ⟨_, rfl⟩
    rw [hg1] at hs hg hgU
    obtain ⟨dd, hdd⟩ : ∃ x, x = (if g < c + b then g + 4294967296 - c - b else g - c - b) := ⟨_, rfl⟩
    obtain ⟨e, he⟩ : ∃ x, x = (if g < c + b then 1 else 0) := ⟨_, rfl⟩
    rw [← hdd, ← he] at hs
    have hde : dd + c + b = g + 4294967296 * e ∧ e ≤ 1 ∧ dd < 4294967296 := by rw [hdd, he]; split <;> omega
    obtain ⟨hde, he1, hdl⟩ := hde
    refine ⟨cur.set i dd, e, by rw [List.length_set]; exact hc1, hdc.set i hdl, he1, ?_, ?_⟩
    · have s1 := val_set 4294967296 cur i dd (by omega)
      have s2 := val_split 4294967296 cur i (by omega)
      rw [val_drop _ cur i (by omega), List.drop_of_length_le (by omega)] at s2
      have s3 := val_split 4294967296 U i (by omega)
      rw [val_drop _ U i (by omega), List.drop_of_length_le (by omega)] at s3
      simp only [val, Nat.mul_zero, Nat.add_zero] at s2 s3
      rw [← hgU] at s3
      rw [hg1] at s1 s2
      rw [List.take_of_length_le (l := v) (by omega)] at hv
      rw [Nat.pow_succ]
      generalize 4294967296 ^ i = P at *
      generalize q * val 4294967296 v = W at *
      have e1 : P * (dd + c + b) = P * (g + 4294967296 * e) := by rw [hde]
      rw [Nat.mul_add, Nat.mul_add, Nat.mul_add, ← Nat.mul_assoc] at e1
      rw [Nat.mul_add] at hv
      omega
    · refine Ev.step (fun k => by rw [quot_less.l0]) ?_
      refine ev_neg (by omega) ?_
      rw [nl_length, nl_length, hn, hc1]
      refine ev_pos (by omega) (ev_pos (by omega) ?_)
      rw [rd_nl, hg1, show (c : Int) % 4294967296 = (c : Int) by omega]
      refine ev_some hs (ev_now ?_)
      rw [Int.toNat_natCast, nl_set]
  | succ d ih =>
    intro i c b cur hi hc1 hdc hc hb1 hdr hv
    have hg := hdc.gd (by decide) i
    have hx := hdv.gd (by decide) i
    have hgU : gd cur i = gd U i := by
      have h1 := gd_drop cur i 0
      have h2 := gd_drop U i 0
      rw [hdr, h2] at h1
      simpa using h1.symm
    have hst := step hc hb1 hx hg
    have hs := sub32_nat hg (Nat.mod_lt (c + q * gd v i) (by decide : 0 < 4294967296)) hb1
    obtain ⟨g, hg1⟩ : ∃ x, gd cur i = x := ⟨_, rfl⟩
    obtain ⟨x, hx1⟩ : ∃ y, gd v i = y := ⟨_, rfl⟩
    rw [hg1] at hs hg hgU
    rw [hx1] at hx hst hs
    have hm := Nat.mod_add_div (c + q * x) 4294967296
    have hml := Nat.mod_lt (c + q * x) (by decide : 0 < 4294967296)
    obtain ⟨pm, hpm⟩ : ∃ y, (c + q * x) % 4294967296 = y := ⟨_, rfl⟩
    obtain ⟨pd, hpd⟩ : ∃ y, (c + q * x) / 4294967296 = y := ⟨_, rfl⟩
    rw [hpm] at hs hm hml
    rw [hpd] at hm hst
    obtain ⟨dd, hdd⟩ : ∃ y, y = (if g < pm + b then g + 4294967296 - pm - b else g - pm - b) := ⟨_, rfl⟩
    obtain ⟨e, he⟩ : ∃ y, y = (if g < pm + b then 1 else 0) := ⟨_, rfl⟩
    rw [← hdd, ← he] at hs
    have hde : dd + pm + b = g + 4294967296 * e ∧ e ≤ 1 ∧ dd < 4294967296 := by rw [hdd, he]; split <;> omega
    obtain ⟨hde, he1, hdl⟩ := hde
    obtain ⟨R, e', h1, h2, h3, h4, h5⟩ := ih (i + 1) pd e (cur.set i dd) (by omega) (by rw [List.length_set]; exact hc1) (hdc.set i hdl) hst.1 he1
      (by
        rw [drop_set_succ]
        have h1 : (cur.drop i).drop 1 = (U.drop i).drop 1 := by rw [hdr]
        rw [List.drop_drop, List.drop_drop] at h1
        exact h1)
      (by
        rw [take_set_succ _ _ _ (by omega), val_snoc, List.length_take, Nat.min_eq_left (by omega), val_take_succ, val_take_succ, hx1, ← hgU, Nat.pow_succ, Nat.mul_add q, Nat.mul_left_comm q]
        generalize 4294967296 ^ i = P at *
        generalize q * val 4294967296 (v.take i) = W at *
        generalize q * x = z at *
        have e1 : P * (dd + pm + b) = P * (g + 4294967296 * e) := by rw [hde]
        have e2 : P * (pm + 4294967296 * pd) = P * (c + z) := by rw [hm]
        rw [Nat.mul_add, Nat.mul_add, Nat.mul_add, ← Nat.mul_assoc] at e1
        rw [Nat.mul_add, Nat.mul_add, ← Nat.mul_assoc] at e2
        rw [Nat.mul_add] at hv ⊢
        omega)
    refine ⟨R, e', h1, h2, h3, h4, ?_⟩
    refine Ev.step (fun k => by rw [quot_less.l0]) ?_
    refine ev_pos (by omega) (ev_pos (by omega) (ev_pos (by rw [nl_length]; omega) (ev_pos (by rw [nl_length]; omega) ?_)))
    rw [rd_nl, rd_nl, hg1, hx1, hst.2, show ((c + q * x : Nat) : Int) % 4294967296 = (pm : Int) by rw [← hpm]; exact (Int.natCast_emod _ _).symm, show ((c + q * x : Nat) : Int) / 4294967296 = (pd : Int) by rw [← hpd]; exact (Int.natCast_ediv _ _).symm]
    refine ev_some hs ?_
    rw [Int.toNat_natCast, nl_set, succ_wrap (by omega)]
    exact h5
theorem qless {v U : List Nat} {n q : Nat} (hn : v.length = n) (hU : U.length = n + 1) (hdv : Dg 4294967296 v) (hdU : Dg 4294967296 U) (hq : q < 4294967296) (hb : n ≤ 1099511627776) :
    ∃ (R : List Nat) (e : Nat), R.length = n + 1 ∧ Dg 4294967296 R ∧ e ≤ 1 ∧ val 4294967296 R + q * val 4294967296 v = val 4294967296 U + 4294967296 ^ (n + 1) * e ∧ Ev (fun k => quot_less.f k (nl U) (nl v) (q : Int)) ((e : Int) == 1, nl R) := by
  obtain ⟨R, e, h1, h2, h3, h4, h5⟩ := less_loop v U n q hn hU hdv hdU hq hb n 0 0 0 U (by omega) hU hdU (by omega) (by omega) rfl (by simp [val])
  refine ⟨R, e, h1, h2, h3, h4, ?_⟩
  refine Ev.congr (fun k => by unfold quot_less.f; rw [nl_length, hn]) ?_
  exact h5

/-! ### the divisor is put back -/
theorem more_loop (v U : List Nat) (n : Nat) (hn : v.length = n) (hU : U.length = n + 1) (hdv : Dg 4294967296 v) (hdU : Dg 4294967296 U) (hb : n ≤ 1099511627776) : ∀ (d i c : Nat) (cur : List Nat), i + d = n → cur.length = n + 1 → Dg 4294967296 cur → c ≤ 1 → cur.drop i = U.drop i → val 4294967296 (cur.take i) + 4294967296 ^ i * c = val 4294967296 (U.take i) + val 4294967296 (v.take i) →
    ∃ (R : List Nat) (e : Nat), R.length = n + 1 ∧ Dg 4294967296 R ∧ val 4294967296 R + 4294967296 ^ (n + 1) * e = val 4294967296 U + val 4294967296 v ∧ Ev (fun k => quot_more.l0 k (nl cur) (nl v) (c : Int) (nl v) (n : Int) (i : Int)) (nl R) := by
  intro d
  induction d with
  | zero =>
    intro i c cur hi hc1 hdc hc hdr hv
    have hi : i = n := by omega
    subst hi
    have hg := hdc.gd (by decide) i
    have hgU : gd cur i = gd U i := by
      have h1 := gd_drop cur i 0
      have h2 := gd_drop U i 0
      rw [hdr, h2] at h1
      simpa using h1.symm
    obtain ⟨g, hg1⟩ : ∃ x, gd cur i = x := ⟨_, rfl⟩
    rw [hg1] at hg hgU
    refine ⟨cur.set i ((g + c) % 4294967296), (g + c) / 4294967296, by rw [List.length_set]; exact hc1, hdc.set i (Nat.mod_lt _ (by decide)), ?_, ?_⟩
    · have s1 := val_set 4294967296 cur i ((g + c) % 4294967296) (by omega)
      have s2 := val_split 4294967296 cur i (by omega)
      rw [val_drop _ cur i (by omega), List.drop_of_length_le (by omega)] at s2
      have s3 := val_split 4294967296 U i (by omega)
      rw [val_drop _ U i (by omega), List.drop_of_length_le (by omega)] at s3
      simp only [val, Nat.mul_zero, Nat.add_zero] at s2 s3
      rw [← hgU] at s3
      rw [hg1] at s1 s2
      rw [List.take_of_length_le (l := v) (by omega)] at hv
      have hm := Nat.mod_add_div (g + c) 4294967296
      rw [Nat.pow_succ]
      generalize (g + c) % 4294967296 = md at *
      generalize (g + c) / 4294967296 = dv at *
      generalize 4294967296 ^ i = P at *
      have e1 : P * (md + 4294967296 * dv) = P * (g + c) := by rw [hm]
      rw [Nat.mul_add, Nat.mul_add, ← Nat.mul_assoc] at e1
      omega
    · refine Ev.step (fun k => by rw [quot_more.l0]) ?_
      refine ev_neg (by omega) ?_
      rw [nl_length, nl_length, hn, hc1]
      refine ev_pos (by omega) (ev_pos (by omega) (ev_now ?_))
      rw [rd_nl, hg1, show ((g : Int) + (c : Int)) % 4294967296 = (((g + c) % 4294967296 : Nat) : Int) by omega, Int.toNat_natCast, nl_set]
  | succ d ih =>
    intro i c cur hi hc1 hdc hc hdr hv
    have hg := hdc.gd (by decide) i
    have hx := hdv.gd (by decide) i
    have hgU : gd cur i = gd U i := by
      have h1 := gd_drop cur i 0
      have h2 := gd_drop U i 0
      rw [hdr, h2] at h1
      simpa using h1.symm
    have hs := add32_nat hg hx hc
    obtain ⟨g, hg1⟩ : ∃ x, gd cur i = x := ⟨_, rfl⟩
    obtain ⟨x, hx1⟩ : ∃ y, gd v i = y := ⟨_, rfl⟩
    rw [hg1] at hs hg hgU
    rw [hx1] at hx hs
    obtain ⟨R, e', h1, h2, h4, h5⟩ := ih (i + 1) ((g + x + c) / 4294967296) (cur.set i ((g + x + c) % 4294967296)) (by omega) (by rw [List.length_set]; exact hc1) (hdc.set i (Nat.mod_lt _ (by decide))) (by omega)
      (by
        rw [drop_set_succ]
        have h1 : (cur.drop i).drop 1 = (U.drop i).drop 1 := by rw [hdr]
        rw [List.drop_drop, List.drop_drop] at h1
        exact h1)
      (by
        rw [take_set_succ _ _ _ (by omega), val_snoc, List.length_take, Nat.min_eq_left (by omega), val_take_succ, val_take_succ, hx1, ← hgU, Nat.pow_succ]
        have hm := Nat.mod_add_div (g + x + c) 4294967296
        generalize (g + x + c) % 4294967296 = md at *
        generalize (g + x + c) / 4294967296 = dv at *
        generalize 4294967296 ^ i = P at *
        have e1 : P * (md + 4294967296 * dv) = P * (g + x + c) := by rw [hm]
        rw [Nat.mul_add, Nat.mul_add, Nat.mul_add, ← Nat.mul_assoc] at e1
        omega)
    refine ⟨R, e', h1, h2, h4, ?_⟩
    refine Ev.step (fun k => by rw [quot_more.l0]) ?_
    refine ev_pos (by omega) (ev_pos (by omega) (ev_pos (by rw [nl_length]; omega) (ev_pos (by rw [nl_length]; omega) ?_)))
    rw [rd_nl, rd_nl, hg1, hx1]
    refine ev_some hs ?_
    rw [Int.toNat_natCast, nl_set, succ_wrap (by omega)]
    exact h5
theorem qmore {v U : List Nat} {n : Nat} (hn : v.length = n) (hU : U.length = n + 1) (hdv : Dg 4294967296 v) (hdU : Dg 4294967296 U) (hb : n ≤ 1099511627776) :
    ∃ (R : List Nat) (e : Nat), R.length = n + 1 ∧ Dg 4294967296 R ∧ val 4294967296 R + 4294967296 ^ (n + 1) * e = val 4294967296 U + val 4294967296 v ∧ Ev (fun k => quot_more.f k (nl U) (nl v)) (nl R) := by
  obtain ⟨R, e, h1, h2, h4, h5⟩ := more_loop v U n hn hU hdv hdU hb n 0 0 U (by omega) hU hdU (by omega) rfl (by simp [val])
  refine ⟨R, e, h1, h2, h4, ?_⟩
  refine Ev.congr (fun k => by unfold quot_more.f; rw [nl_length, hn]) ?_
  exact h5
end Go.Proofs.Ytcepdndhkidehaa.M
end
section
namespace Go.Proofs.Ytcepdndhkidehaa.M
open Go.RowKit Go.Proofs.YtcepdndhkidehaaW.PrintWords Go.Proofs.YtcepdndhkidehaaW.PrintLast Go.Proofs.YtcepdndhkidehaaW.PrintMore Go.Proofs.Ytcepdndhkidehaa.PA
set_option linter.unusedVariables false
set_option linter.unusedSimpArgs false

/-! ### shifted back -/
theorem back_loop (x : List Nat) (k : Nat) (hx : Dg 4294967296 x) (hk : k < 32) (hl : x.length ≤ 1099511627776) : ∀ (d i : Nat) (out : List Nat), i + d = x.length → out.length = x.length → Dg 4294967296 out → 2 ^ k * val 4294967296 (out.take i) + gd x 0 % 2 ^ k = val 4294967296 (x.take i) + 4294967296 ^ i * (gd x i % 2 ^ k) →
    ∃ R : List Nat, R.length = x.length ∧ Dg 4294967296 R ∧ val 4294967296 R = val 4294967296 x / 2 ^ k ∧ Ev (fun r => quot_back.l0 r (nl x) (k : Int) (nl out) (x.length : Int) (i : Int)) (nl R) := by
  have hp0 : 0 < 2 ^ k := Nat.pow_pos (by decide)
  have hpp : (2 : Nat) ^ k * 2 ^ (32 - k) = 4294967296 := by rw [← Nat.pow_add, show k + (32 - k) = 32 by omega]
  intro d
  induction d with
  | zero =>
    intro i out hi ho hd hv
    rw [List.take_of_length_le (by omega), List.take_of_length_le (by omega), gd_ge (l := x) (i := i) (by omega), Nat.zero_mod, Nat.mul_zero, Nat.add_zero] at hv
    refine ⟨out, ho, hd, ?_, ?_⟩
    · rw [← hv, Nat.mul_add_div hp0, Nat.div_eq_of_lt (Nat.mod_lt _ hp0), Nat.add_zero]
    · refine Ev.step (fun k => by rw [quot_back.l0]) ?_
      exact ev_neg (by omega) (Ev.now _)
  | succ d ih =>
    intro i out hi ho hd hv
    have hg := hx.gd (by decide) i
    have hg2 := hx.gd (by decide) (i + 1)
    obtain ⟨g, hg1⟩ : ∃ y, gd x i = y := ⟨_, rfl⟩
    obtain ⟨h, hh1⟩ : ∃ y, gd x (i + 1) = y := ⟨_, rfl⟩
    rw [hg1] at hg hv
    rw [hh1] at hg2
    have hgk : g / 2 ^ k < 2 ^ (32 - k) := by rw [Nat.div_lt_iff_lt_mul hp0, Nat.mul_comm, hpp]; exact hg
    have hor : g / 2 ^ k ||| 2 ^ (32 - k) * (h % 2 ^ k) = g / 2 ^ k + 2 ^ (32 - k) * (h % 2 ^ k) := or_low hgk
    have hlt : g / 2 ^ k + 2 ^ (32 - k) * (h % 2 ^ k) < 4294967296 := by
      have h1 := Nat.mul_le_mul_left (2 ^ (32 - k)) (Nat.succ_le_of_lt (Nat.mod_lt h hp0))
      rw [Nat.succ_eq_add_one, Nat.mul_add, Nat.mul_comm _ (2 ^ k), hpp] at h1
      omega
    obtain ⟨R, h1, h2, h3, h4⟩ := ih (i + 1) (out.set i (g / 2 ^ k + 2 ^ (32 - k) * (h % 2 ^ k))) (by omega) (by rw [List.length_set]; exact ho) (hd.set i hlt)
      (by
        rw [take_set_succ _ _ _ (by omega), val_snoc, List.length_take, Nat.min_eq_left (by omega), val_take_succ, hg1, hh1, Nat.pow_succ]
        have hm := Nat.mod_add_div g (2 ^ k)
        have e1 : 2 ^ k * (4294967296 ^ i * (g / 2 ^ k + 2 ^ (32 - k) * (h % 2 ^ k))) = 4294967296 ^ i * (2 ^ k * (g / 2 ^ k)) + 4294967296 ^ i * 4294967296 * (h % 2 ^ k) := by
          rw [Nat.mul_left_comm, Nat.mul_add, Nat.mul_add, ← Nat.mul_assoc (2 ^ k) (2 ^ (32 - k)), hpp, ← Nat.mul_assoc (4294967296 ^ i) 4294967296]
        rw [Nat.mul_add, e1]
        have e2 : 4294967296 ^ i * (g % 2 ^ k + 2 ^ k * (g / 2 ^ k)) = 4294967296 ^ i * g := by rw [hm]
        rw [Nat.mul_add] at e2
        omega)
    refine ⟨R, h1, h2, h3, ?_⟩
    refine Ev.step (fun k => by rw [quot_back.l0]) ?_
    refine ev_pos (by omega) (ev_pos (by omega) (ev_pos (by rw [nl_length]; omega) (ev_pos (by omega) (ev_pos (by rw [nl_length]; omega) (ev_some rfl ?_)))))
    rw [rd_nl, hg1, shr32 hk, Int.toNat_natCast, nl_set, succ_wrap (by omega), nl_length]
    by_cases hlast : i + 1 < x.length
    · refine ev_pos (by omega) (ev_pos (by omega) ?_)
      rw [rd_nl, rd_nl, gd_set _ _ _ _ (by omega), if_pos rfl, hh1]
      have e3 : shr .u64 (IntKind.u64.wrap ((IntKind.u64.wrap ((h : Nat) : Int)) * 4294967296)) (k : Int) % 4294967296 = ((2 ^ (32 - k) * (h % 2 ^ k) : Nat) : Int) := by
        rw [wrap_u64_nat (n := h) (by omega), show ((h : Nat) : Int) * 4294967296 = ((h * 4294967296 : Nat) : Int) by omega, wrap_u64_nat (by omega), shr64 hk]
        have : h * 4294967296 / 2 ^ k = h * 2 ^ (32 - k) := by
          rw [← hpp, Nat.mul_left_comm, Nat.mul_div_cancel_left _ hp0]
        rw [this, show ((h * 2 ^ (32 - k) : Nat) : Int) % 4294967296 = ((h * 2 ^ (32 - k) % 4294967296 : Nat) : Int) from (Int.natCast_emod _ _).symm]
        congr 1
        rw [Nat.mul_comm h, show (4294967296 : Nat) = 2 ^ (32 - k) * 2 ^ k by rw [Nat.mul_comm, hpp], Nat.mul_mod_mul_left]
      rw [e3, bits_or32 (by have := Nat.div_le_self g (2 ^ k); omega) (by have := Nat.or_comm; omega), hor, nl_set, List.set_set]
      exact h4
    · refine ev_neg (by omega) ?_
      have : h = 0 := by rw [← hh1]; exact gd_ge (by omega)
      rw [this, Nat.zero_mod, Nat.mul_zero, Nat.add_zero] at h4
      exact h4
theorem qback {x : List Nat} {k : Nat} (hx : Dg 4294967296 x) (hk : k < 32) (hl : x.length ≤ 1099511627776) :
    ∃ R : List Nat, R.length = x.length ∧ Dg 4294967296 R ∧ val 4294967296 R = val 4294967296 x / 2 ^ k ∧ Ev (fun r => quot_back.f r (nl x) (k : Int)) (nl R) := by
  obtain ⟨R, h1, h2, h3, h4⟩ := back_loop x k hx hk hl x.length 0 (List.replicate x.length 0) (by omega) (by rw [List.length_replicate]) (Dg.replicate (by decide) _) (by simp [val])
  refine ⟨R, h1, h2, h3, ?_⟩
  refine Ev.congr (fun k => by unfold quot_back.f; rw [nl_length, Int.toNat_natCast]) ?_
  refine ev_pos (by omega) (ev_pos (by omega) ?_)
  rw [show List.replicate x.length (0 : Int) = nl (List.replicate x.length 0) from nl_replicate _ 0]
  exact h4

/-! ### one digit of a long quotient -/
theorem long_digit {u v : List Nat} {n j : Nat} (hn : v.length = n + 2) (hj : j + (n + 3) ≤ u.length) (hdu : Dg 4294967296 u) (hdv : Dg 4294967296 v) (hb : u.length ≤ 1099511627776) (htop : 2147483648 ≤ gd v (n + 1)) (hlt : val 4294967296 (u.drop (j + 1)) < val 4294967296 v) :
    ∃ (W : List Nat) (Q : Nat), W.length = u.length ∧ Dg 4294967296 W ∧ Q < 4294967296 ∧ val 4294967296 (W.drop j) < val 4294967296 v ∧ val 4294967296 W + 4294967296 ^ j * (val 4294967296 v * Q) = val 4294967296 u ∧
      ∀ {α : Type} {f : Nat → List Int → Int → Option α} {r : α}, Ev (fun k => f k (nl W) (Q : Int)) r →
        Ev (fun k => (quot_guess.f k (((nl u).take ((wrap64 ((wrap64 ((j : Int) + ((nl v).length : Int))) + 1)) : Int).toNat).drop ((j : Int)).toNat) (nl v)).bind fun t818 => ((quot_less.at k (nl u) (j : Int) (nl v) t818).bind fun bt819 => (if bt819.1 = true then ((quot_more.at k bt819.2 (j : Int) (nl v)).bind fun t821 => f k t821 ((IntKind.u64.wrap (t818 - 1)) % 4294967296)) else f k bt819.2 (t818 % 4294967296)))) r := by
  have ew : wrap64 ((wrap64 ((j : Int) + ((nl v).length : Int))) + 1) = ((j + (n + 3) : Nat) : Int) := by rw [nl_length, hn, wrap_add (by omega), succ_wrap (by omega)]; rfl
  have ept : ∀ w : List Nat, ((nl w).take ((wrap64 ((wrap64 ((j : Int) + ((nl v).length : Int))) + 1)) : Int).toNat).drop ((j : Int)).toNat = nl ((w.take (j + (n + 3))).drop j) := by
    intro w; rw [ew, Int.toNat_natCast, Int.toNat_natCast, nl_take, nl_drop]
  obtain ⟨p, hp⟩ : ∃ p, (u.take (j + (n + 3))).drop j = p := ⟨_, rfl⟩
  have hpl : p.length = n + 3 := by rw [← hp, List.length_drop, List.length_take]; omega
  have hdp : Dg 4294967296 p := by rw [← hp]; exact (hdu.take _).drop _
  have hus : u = u.take j ++ p ++ u.drop (j + (n + 3)) := by
    have h1 : u.take (j + (n + 3)) = (u.take (j + (n + 3))).take j ++ (u.take (j + (n + 3))).drop j := (List.take_append_drop j _).symm
    rw [List.take_take, Nat.min_eq_left (by omega), hp] at h1
    rw [← h1, List.take_append_drop]
  have hud : u.drop j = p ++ u.drop (j + (n + 3)) := by
    have h1 : List.drop j u = List.drop j (u.take j ++ p ++ u.drop (j + (n + 3))) := congrArg (List.drop j) hus
    rw [List.append_assoc, List.drop_append_of_le_length (by rw [List.length_take]; omega), List.drop_of_length_le (l := u.take j) (by rw [List.length_take]; omega), List.nil_append] at h1
    exact h1
  have hvd : val 4294967296 (u.drop j) = val 4294967296 p + 4294967296 ^ (n + 3) * val 4294967296 (u.drop (j + (n + 3))) := by rw [hud, val_append, hpl]
  have hvl := val_lt (by decide) hdv
  rw [hn] at hvl
  have hgj := hdu.gd (by decide) j
  have hdrop := val_drop 4294967296 u j (by omega)
  have hz : val 4294967296 (u.drop (j + (n + 3))) = 0 := by
    rcases Nat.eq_zero_or_pos (val 4294967296 (u.drop (j + (n + 3)))) with h | h
    · exact h
    · exfalso
      have h1 := Nat.mul_le_mul_left (4294967296 ^ (n + 3)) h
      rw [show n + 3 = n + 2 + 1 by rfl, Nat.pow_succ] at h1 hvd
      generalize 4294967296 ^ (n + 2) = P at *
      omega
  have hU : val 4294967296 (u.drop j) = val 4294967296 p := by rw [hvd, hz, Nat.mul_zero, Nat.add_zero]
  have hUlt : val 4294967296 p < 4294967296 * val 4294967296 v := by omega
  obtain ⟨q, hq, hq1, hq2, hqe⟩ := qguess hn (by omega) hdp hdv (by omega) htop hUlt
  obtain ⟨R, e, hR, hdR, he, hRv, hRe⟩ := qless (n := n + 2) hn (by omega) hdv hdp hq (by omega)
  have hV0 : 0 < val 4294967296 v := by omega
  have hdm := Nat.div_add_mod (val 4294967296 p) (val 4294967296 v)
  have hml := Nat.mod_lt (val 4294967296 p) hV0
  have hRl := val_lt (by decide) hdR
  rw [hR] at hRl
  -- what a new part makes of the whole
  have mk : ∀ R2 : List Nat, R2.length = n + 3 → Dg 4294967296 R2 → val 4294967296 R2 = val 4294967296 p % val 4294967296 v →
      (u.take j ++ R2 ++ u.drop (j + (n + 3))).length = u.length ∧ Dg 4294967296 (u.take j ++ R2 ++ u.drop (j + (n + 3))) ∧ val 4294967296 ((u.take j ++ R2 ++ u.drop (j + (n + 3))).drop j) < val 4294967296 v ∧ val 4294967296 (u.take j ++ R2 ++ u.drop (j + (n + 3))) + 4294967296 ^ j * (val 4294967296 v * (val 4294967296 p / val 4294967296 v)) = val 4294967296 u := by
    intro R2 h1 h2 h3
    have hjl : (u.take j).length = j := by rw [List.length_take]; omega
    refine ⟨by simp only [List.length_append, List.length_take, List.length_drop]; omega, ((hdu.take _).append h2).append (hdu.drop _), ?_, ?_⟩
    · rw [List.append_assoc, List.drop_append_of_le_length (by omega), List.drop_of_length_le (by omega), List.nil_append, val_append, hz, Nat.mul_zero, Nat.add_zero, h3]
      exact hml
    · have e1 := congrArg (val 4294967296) hus
      rw [val_append, val_append, hz, Nat.mul_zero, Nat.add_zero, hjl] at e1
      rw [val_append, val_append, hz, Nat.mul_zero, Nat.add_zero, hjl, h3, e1, Nat.add_assoc, ← Nat.mul_add, Nat.add_comm (val 4294967296 p % val 4294967296 v), hdm]
  have less_at : quot_less.at = fun k l0 j l1 a2 => (quot_less.f k ((l0.take (wrap64 ((wrap64 (j + (l1.length : Int))) + 1) : Int).toNat).drop (j : Int).toNat) l1 a2).bind fun b => some (b.1, l0.take j.toNat ++ b.2 ++ l0.drop (wrap64 ((wrap64 (j + (l1.length : Int))) + 1) : Int).toNat) := rfl
  have hat : Ev (fun k => quot_less.at k (nl u) (j : Int) (nl v) (q : Int)) ((e : Int) == 1, nl (u.take j ++ R ++ u.drop (j + (n + 3)))) := by
    refine Ev.congr (fun k => by unfold quot_less.at; rw [ept u, hp]) ?_
    refine Ev.bind hRe (ev_now ?_)
    rw [ew, Int.toNat_natCast, Int.toNat_natCast, nl_take, nl_drop, ← nl_append, ← nl_append]
  rcases Nat.eq_zero_or_pos e with rfl | he0
  · -- the guess was right
    rw [Nat.mul_zero, Nat.add_zero] at hRv
    have hqQ : q = val 4294967296 p / val 4294967296 v := by
      rcases Nat.lt_or_ge (val 4294967296 p / val 4294967296 v) q with h | h
      · exfalso
        have h1 : q = val 4294967296 p / val 4294967296 v + 1 := by omega
        rw [h1, Nat.add_mul, Nat.one_mul, Nat.mul_comm] at hRv
        omega
      · omega
    have hRm : val 4294967296 R = val 4294967296 p % val 4294967296 v := by
      rw [hqQ, Nat.mul_comm] at hRv; omega
    obtain ⟨m1, m2, m3, m4⟩ := mk R hR hdR hRm
    refine ⟨_, val 4294967296 p / val 4294967296 v, m1, m2, by omega, m3, m4, ?_⟩
    intro α f r h
    refine Ev.congr (fun k => by rw [ept u, hp]) ?_
    refine Ev.bind hqe (Ev.bind hat (ev_neg (by simp) ?_))
    rw [show (q : Int) % 4294967296 = (q : Int) by omega, hqQ]
    exact h
  · -- one too great
    have he1 : e = 1 := by omega
    subst he1
    rw [Nat.mul_one] at hRv
    have hqQ : q = val 4294967296 p / val 4294967296 v + 1 := by
      rcases Nat.lt_or_ge (val 4294967296 p / val 4294967296 v) q with h | h
      · omega
      · exfalso
        have h1 : q = val 4294967296 p / val 4294967296 v := by omega
        rw [h1, Nat.mul_comm] at hRv
        omega
    obtain ⟨R2, e2, hR2, hdR2, hR2v, hR2e⟩ := qmore (n := n + 2) hn (by omega) hdv hdR (by omega)
    have hR2l := val_lt (by decide) hdR2
    rw [hR2] at hR2l
    have hRm : val 4294967296 R2 = val 4294967296 p % val 4294967296 v := by
      rw [hqQ, Nat.add_mul, Nat.one_mul, Nat.mul_comm] at hRv
      have hmB : val 4294967296 p % val 4294967296 v < 4294967296 ^ (n + 2 + 1) := by
        rw [Nat.pow_succ]
        generalize 4294967296 ^ (n + 2) = P at *
        omega
      rcases Nat.lt_or_ge e2 1 with h | h
      · have : e2 = 0 := by omega
        subst this
        rw [Nat.mul_zero, Nat.add_zero] at hR2v
        omega
      · rcases Nat.lt_or_ge 1 e2 with h2 | h2
        · exfalso
          have h3 := Nat.mul_le_mul_left (4294967296 ^ (n + 2 + 1)) h2
          rw [Nat.succ_eq_add_one, Nat.mul_add, Nat.mul_one] at h3
          omega
        · have : e2 = 1 := by omega
          subst this
          rw [Nat.mul_one] at hR2v
          omega
    obtain ⟨m1, m2, m3, m4⟩ := mk R2 hR2 hdR2 hRm
    refine ⟨_, val 4294967296 p / val 4294967296 v, m1, m2, by omega, m3, m4, ?_⟩
    intro α f r h
    have hjl : (u.take j).length = j := by rw [List.length_take]; omega
    have hm2 : Ev (fun k => quot_more.at k (nl (u.take j ++ R ++ u.drop (j + (n + 3)))) (j : Int) (nl v)) (nl (u.take j ++ R2 ++ u.drop (j + (n + 3)))) := by
      have ept2 : ((u.take j ++ R ++ u.drop (j + (n + 3))).take (j + (n + 3))).drop j = R := by
        rw [List.take_append_of_le_length (by rw [List.length_append]; omega), List.take_of_length_le (by rw [List.length_append]; omega), List.drop_append_of_le_length (by omega), List.drop_of_length_le (by omega), List.nil_append]
      refine Ev.congr (fun k => by unfold quot_more.at; rw [ept, ept2]) ?_
      refine Ev.bind hR2e (ev_now ?_)
      rw [ew, Int.toNat_natCast, Int.toNat_natCast, nl_take, nl_drop, ← nl_append, ← nl_append]
      congr 1
      rw [List.append_assoc (u.take j) R, List.take_append_of_le_length (by omega), List.take_of_length_le (l := u.take j) (by omega), ← List.append_assoc (u.take j) R, List.drop_append_of_le_length (by rw [List.length_append]; omega), List.drop_of_length_le (by rw [List.length_append]; omega), List.nil_append]
    refine Ev.congr (fun k => by rw [ept u, hp]) ?_
    refine Ev.bind hqe (Ev.bind hat (ev_pos (by simp) (Ev.bind hm2 ?_)))
    rw [show (q : Int) - 1 = ((val 4294967296 p / val 4294967296 v : Nat) : Int) by omega, wrap_u64_nat (by omega), show ((val 4294967296 p / val 4294967296 v : Nat) : Int) % 4294967296 = ((val 4294967296 p / val 4294967296 v : Nat) : Int) by generalize val 4294967296 p / val 4294967296 v = z at *; omega]
    exact h
end Go.Proofs.Ytcepdndhkidehaa.M
end
section
namespace Go.Proofs.Ytcepdndhkidehaa.M
open Go.RowKit Go.Proofs.YtcepdndhkidehaaW.PrintWords Go.Proofs.YtcepdndhkidehaaW.PrintLast Go.Proofs.YtcepdndhkidehaaW.PrintMore Go.Proofs.Ytcepdndhkidehaa.PA
set_option linter.unusedVariables false
set_option linter.unusedSimpArgs false

theorem long_loop (v : List Nat) (n K X m : Nat) (hn : v.length = n + 2) (hK : K < 32) (hdv : Dg 4294967296 v) (htop : 2147483648 ≤ gd v (n + 1)) (hb : m ≤ 1099511627776) : ∀ (i : Nat) (u q : List Nat), u.length = m → i + (n + 2) ≤ m → i ≤ q.length → q.length ≤ 1099511627776 → Dg 4294967296 u → Dg 4294967296 q → val 4294967296 (u.drop i) < val 4294967296 v → val 4294967296 u + 4294967296 ^ i * (val 4294967296 v * val 4294967296 (q.drop i)) = X →
    ∃ (Q R : List Nat) (w : Nat), Q.length = q.length ∧ Dg 4294967296 Q ∧ R.length = n + 2 ∧ Dg 4294967296 R ∧ w < val 4294967296 v ∧ w + val 4294967296 v * val 4294967296 Q = X ∧ val 4294967296 R = w / 2 ^ K ∧ Ev (fun r => quot_long.l0 r (K : Int) (nl u) (nl v) (nl q) ((i : Int) - 1)) (nl Q, nl R) := by
  intro i
  induction i with
  | zero =>
    intro u q hu hi hq hqb hdu hdq hlt hv
    rw [List.drop_zero] at hlt hv
    rw [Nat.pow_zero, Nat.one_mul] at hv
    have hvl := val_lt (by decide) hdv
    rw [hn] at hvl
    have hs := val_split 4294967296 u (n + 2) (by omega)
    have hz : val 4294967296 (u.drop (n + 2)) = 0 := by
      rcases Nat.eq_zero_or_pos (val 4294967296 (u.drop (n + 2))) with h | h
      · exact h
      · exfalso
        have h1 := Nat.mul_le_mul_left (4294967296 ^ (n + 2)) h
        generalize 4294967296 ^ (n + 2) = P at *
        omega
    rw [hz, Nat.mul_zero, Nat.add_zero] at hs
    obtain ⟨R, h1, h2, h3, h4⟩ := qback (hdu.take (n + 2)) hK (by rw [List.length_take]; omega)
    refine ⟨q, R, val 4294967296 u, rfl, hdq, by rw [h1, List.length_take]; omega, h2, hlt, hv, by rw [h3, ← hs], ?_⟩
    refine Ev.step (fun k => by rw [quot_long.l0]) ?_
    refine ev_neg (by omega) (ev_pos (by omega) (ev_pos (by rw [nl_length, nl_length]; omega) ?_))
    rw [nl_length, hn, Int.toNat_natCast, nl_take]
    exact Ev.bind h4 (Ev.now _)
  | succ i ih =>
    intro u q hu hi hq hqb hdu hdq hlt hv
    have c1 : (i : Int) ≥ 0 := Int.natCast_nonneg i
    have c3 : (i : Int) ≤ ((i + (n + 3) : Nat) : Int) := Int.ofNat_le.mpr (Nat.le_add_right _ _)
    have c12 : (((i + 1 : Nat) : Int) - 1) = (i : Int) := by clear hv hlt; omega
    have c7 : i + (n + 3) ≤ u.length := by clear hv hlt; omega
    have c8 : u.length ≤ 1099511627776 := by clear hv hlt; omega
    have c9 : i + (n + 2) ≤ m := by clear hv hlt; omega
    have c10 : i < q.length := hq
    have c4 : ((i + (n + 3) : Nat) : Int) ≤ (u.length : Int) := Int.ofNat_le.mpr c7
    have c5 : (i : Int) < (q.length : Int) := Int.ofNat_lt.mpr c10
    have c6 : wrap64 ((i : Int) - 1) = (i : Int) - 1 := by clear hv hlt; exact wrap_id (by omega) (by omega)
    have ew : wrap64 ((wrap64 ((i : Int) + ((nl v).length : Int))) + 1) = ((i + (n + 3) : Nat) : Int) := by clear hv hlt; rw [nl_length, hn, wrap_add (by omega), succ_wrap (by omega)]; rfl
    obtain ⟨W, Qd, w1, w2, w3, w4, w5, w6⟩ := long_digit (j := i) hn c7 hdu hdv c8 htop hlt
    obtain ⟨Q, R, w, r1, r2, r3, r4, r5, r6, r7, r8⟩ := ih W (q.set i Qd) (w1.trans hu) c9 (by rw [List.length_set]; exact Nat.le_of_lt c10) (by rw [List.length_set]; exact hqb) w2 (hdq.set i w3) w4 (by
      rw [val_drop _ _ _ (by rw [List.length_set]; exact c10), drop_set_succ, gd_set _ _ _ _ c10, if_pos rfl, Nat.mul_add, Nat.mul_add, ← Nat.add_assoc, w5, ← hv, Nat.pow_succ, Nat.mul_assoc, Nat.mul_left_comm (val 4294967296 v) 4294967296])
    refine ⟨Q, R, w, by rw [r1, List.length_set], r2, r3, r4, r5, r6, r7, ?_⟩
    clear w4 w5 hv hlt r5 r6 r7 ih
    rw [c12]
    refine Ev.step (fun k => by rw [quot_long.l0]) ?_
    refine ev_pos c1 (ev_pos c1 (ev_pos (by rw [ew]; exact c3) (ev_pos (by rw [ew, nl_length]; exact c4) ?_)))
    refine w6 (f := fun k a b => if (i : Int) < ((nl q).length : Int) then (quot_long.l0 k (K : Int) a (nl v) ((nl q).set (i : Int).toNat b) (wrap64 ((i : Int) - 1))) else none) ?_
    refine ev_pos (by rw [nl_length]; exact c5) ?_
    rw [Int.toNat_natCast, nl_set, c6]
    exact r8

theorem leading {t : Nat} (ht : t < 4294967296) : bits_LeadingZeros32.f (t : Int) = some (((32 - bl t : Nat) : Int)) := by
  have h1 : bl t ≤ 32 := (bl_le t 32).mpr (by omega)
  unfold bits_LeadingZeros32.f
  rw [len32 ht]
  show some (wrap64 (32 - ((bl t : Nat) : Int))) = _
  rw [wrap_id (by omega) (by omega)]
  congr 1
  omega

/-- numbers only: the divisor y of n + 2 limbs, the top one t, shifted by K -/
theorem shifted_top {y low t bt K P : Nat} (hy : y = low + P * t) (hl : low < P) (ht : 0 < t) (h1 : t + 1 ≤ 2 ^ bt) (h2 : 2 ^ (bt - 1) ≤ t) (hb : 0 < bt) (hK : bt + K = 32) :
    P ≤ y ∧ y * 2 ^ K < P * 4294967296 ∧ P * 2147483648 ≤ y * 2 ^ K := by
  have hp0 : 0 < 2 ^ K := Nat.pow_pos (by decide)
  have ht2 : (t + 1) * 2 ^ K ≤ 4294967296 := by
    have h3 := Nat.mul_le_mul_right (2 ^ K) h1
    rw [← Nat.pow_add, hK] at h3
    exact h3
  have ht3 : 2147483648 ≤ t * 2 ^ K := by
    have h3 := Nat.mul_le_mul_right (2 ^ K) h2
    rw [← Nat.pow_add, show bt - 1 + K = 31 by omega] at h3
    exact h3
  clear h1 h2
  generalize 2 ^ K = S at *
  refine ⟨?_, ?_, ?_⟩
  · have := Nat.mul_le_mul_left P ht
    rw [Nat.succ_eq_add_one, Nat.zero_add, Nat.mul_one] at this
    omega
  · have h3 : y < P * (t + 1) := by rw [Nat.mul_add, Nat.mul_one]; omega
    refine Nat.lt_of_lt_of_le (Nat.mul_lt_mul_of_pos_right h3 hp0) ?_
    rw [Nat.mul_assoc]
    exact Nat.mul_le_mul_left _ ht2
  · refine Nat.le_trans (Nat.mul_le_mul_left _ ht3) ?_
    rw [← Nat.mul_assoc]
    exact Nat.mul_le_mul_right _ (by omega)
theorem zero_high {Z low P h : Nat} (hs : Z = low + P * h) (hZ : Z < P) : h = 0 := by
  rcases Nat.eq_zero_or_pos h with h0 | h0
  · exact h0
  · exfalso
    have h1 := Nat.mul_le_mul_left P h0
    rw [Nat.succ_eq_add_one, Nat.zero_add, Nat.mul_one] at h1
    omega
theorem top_ge {Z low P g : Nat} (hs : Z = low + P * g) (hl : low < P) (hZ : P * 2147483648 ≤ Z) : 2147483648 ≤ g := by
  rcases Nat.lt_or_ge g 2147483648 with h | h
  · exfalso
    have h4 := Nat.mul_le_mul_left P (Nat.succ_le_of_lt h)
    rw [Nat.succ_eq_add_one, Nat.mul_add, Nat.mul_one] at h4
    omega
  · exact h
theorem start_lt {X S low A h P y : Nat} (hs : X * S = low + A * h) (hX : X < A * P) (hS : 0 < S) (hy : P ≤ y) : h < y * S := by
  have h2 : A * h < A * (y * S) := by
    refine Nat.lt_of_le_of_lt (by rw [hs]; exact Nat.le_add_left _ _) (Nat.lt_of_lt_of_le (Nat.mul_lt_mul_of_pos_right hX hS) ?_)
    rw [← Nat.mul_assoc]
    exact Nat.mul_le_mul_right _ (Nat.mul_le_mul_left _ hy)
  exact Nat.lt_of_mul_lt_mul_left h2
theorem unshift {X y Q w S : Nat} (hS : 0 < S) (hw : w < y * S) (h : w + y * S * Q = X * S) : Q = X / y ∧ w / S = X % y := by
  have e2 : y * S * Q = S * (y * Q) := by rw [Nat.mul_comm y, Nat.mul_assoc]
  rw [Nat.mul_comm X, e2] at h
  rw [Nat.mul_comm y] at hw
  have hle : y * Q ≤ X := by
    refine Nat.le_of_mul_le_mul_left ?_ hS
    rw [← h]; exact Nat.le_add_left _ _
  obtain ⟨d, hd⟩ : ∃ d, X = y * Q + d := ⟨X - y * Q, by omega⟩
  have hw2 : w = S * d := by rw [hd, Nat.mul_add] at h; omega
  have hdl : d < y := by
    rw [hw2] at hw
    exact Nat.lt_of_mul_lt_mul_left hw
  have hyp : 0 < y := by omega
  rw [hd, Nat.mul_add_div hyp, Nat.div_eq_of_lt hdl, Nat.add_zero, Nat.mul_add_mod, Nat.mod_eq_of_lt hdl, hw2, Nat.mul_div_cancel_left _ hS]
  exact ⟨rfl, rfl⟩
theorem last_val {y : List Nat} {n : Nat} (hn : y.length = n + 1) : val 4294967296 y = val 4294967296 (y.take n) + 4294967296 ^ n * gd y n := by
  have ys := val_split 4294967296 y n (by omega)
  rw [val_drop _ y n (by omega), List.drop_of_length_le (by omega)] at ys
  rw [ys]; simp only [val, Nat.mul_zero, Nat.add_zero]
theorem take_lt {y : List Nat} {n : Nat} (hy : Dg 4294967296 y) (hn : n ≤ y.length) : val 4294967296 (y.take n) < 4294967296 ^ n := by
  have h := val_lt (by decide) (hy.take n)
  rw [List.length_take, Nat.min_eq_left hn] at h
  exact h

theorem qlong {x y : List Nat} {n : Nat} (hx : Dg 4294967296 x) (hy : Dg 4294967296 y) (hn : y.length = n + 2) (hxy : y.length ≤ x.length) (hb : x.length ≤ 34359738368) (htop : 0 < gd y (n + 1)) :
    ∃ (Q R : List Nat), Q.length ≤ x.length ∧ Dg 4294967296 Q ∧ R.length ≤ x.length ∧ Dg 4294967296 R ∧ val 4294967296 Q = val 4294967296 x / val 4294967296 y ∧ val 4294967296 R = val 4294967296 x % val 4294967296 y ∧ Ev (fun r => quot_long.f r (nl x) (nl y)) (nl Q, nl R) := by
  have ht := hy.gd (by decide) (n + 1)
  obtain ⟨t, htt⟩ : ∃ t, gd y (n + 1) = t := ⟨_, rfl⟩
  rw [htt] at ht htop
  have hbl : bl t ≤ 32 := (bl_le t 32).mpr ht
  have hbp := bl_pos htop
  obtain ⟨K, hK⟩ : ∃ K, 32 - bl t = K := ⟨_, rfl⟩
  have hK32 : K < 32 := by omega
  have hbK : bl t + K = 32 := by omega
  obtain ⟨U, u1, u2, u3, u4⟩ := qshifted hx hK32 (by omega)
  obtain ⟨V, v1, v2, v3, v4⟩ := qshifted hy hK32 (by omega)
  have hp0 : 0 < 2 ^ K := Nat.pow_pos (by decide)
  have ys := last_val (n := n + 1) hn
  rw [htt] at ys
  obtain ⟨g1, g2, g3⟩ := shifted_top ys (take_lt hy (by omega)) htop (bl_lt t) (bl_ge htop) hbp hbK
  have hs := val_split 4294967296 V (n + 2) (by omega)
  rw [v3] at hs
  have hz := zero_high hs (by rw [show n + 2 = n + 1 + 1 by rfl, Nat.pow_succ]; exact g2)
  rw [hz, Nat.mul_zero, Nat.add_zero] at hs
  have hvl : (V.take (n + 2)).length = n + 2 := by rw [List.length_take]; omega
  have hvt : 2147483648 ≤ gd (V.take (n + 2)) (n + 1) := by
    have h1 := last_val (n := n + 1) hvl
    rw [← hs] at h1
    exact top_ge h1 (take_lt (v2.take _) (by omega)) g3
  have hstart : val 4294967296 (U.drop (x.length - (n + 2) + 1)) < val 4294967296 (V.take (n + 2)) := by
    rw [← hs]
    have h1 := val_split 4294967296 U (x.length - (n + 2) + 1) (by omega)
    rw [u3] at h1
    have hxl := val_lt (by decide) hx
    refine start_lt h1 (P := 4294967296 ^ (n + 1)) ?_ hp0 g1
    rw [← Nat.pow_add, show x.length - (n + 2) + 1 + (n + 1) = x.length by omega]
    exact hxl
  clear g1 g2 g3 ys
  obtain ⟨Q, R, w, r1, r2, r3, r4, r5, r6, r7, r8⟩ := long_loop (V.take (n + 2)) n K (val 4294967296 x * 2 ^ K) (x.length + 1) hvl hK32 (v2.take _) hvt (by omega) (x.length - (n + 2) + 1) U (List.replicate (x.length - (n + 2) + 1) 0) u1 (by omega) (by rw [List.length_replicate]; exact Nat.le_refl _) (by rw [List.length_replicate]; omega) u2 (Dg.replicate (by decide) _) hstart (by
    rw [List.drop_of_length_le (by rw [List.length_replicate]; exact Nat.le_refl _), show val 4294967296 [] = 0 from rfl, Nat.mul_zero, Nat.mul_zero, Nat.add_zero]; exact u3)
  rw [List.length_replicate] at r1
  rw [← hs] at r5 r6
  obtain ⟨q1, q2⟩ := unshift hp0 r5 r6
  refine ⟨Q, R, by omega, r2, by omega, r4, q1, by rw [r7, q2], ?_⟩
  clear r5 r6 r7 q1 q2 hz hs hstart u3 v3 hp0
  have ey : wrap64 (((nl y).length : Int) - 1) = ((n + 1 : Nat) : Int) := by rw [nl_length, hn, wrap_id] <;> omega
  have eq : wrap64 ((wrap64 (((nl x).length : Int) - ((nl y).length : Int))) + 1) = ((x.length - (n + 2) + 1 : Nat) : Int) := by
    rw [nl_length, nl_length, hn, wrap_id (x := ((x.length : Nat) : Int) - ((n + 2 : Nat) : Int)) (by omega) (by omega), wrap_id] <;> omega
  refine Ev.congr (fun k => by unfold quot_long.f; rw [ey, eq, rd_nl, htt]) ?_
  refine ev_pos (by omega) (ev_pos (by rw [nl_length]; omega) (ev_some (leading ht) ?_))
  rw [hK]
  refine Ev.bind u4 (Ev.bind v4 (ev_pos (by omega) (ev_pos (by rw [nl_length, nl_length]; omega) (ev_pos (by omega) (ev_pos (by omega) (ev_some rfl ?_))))))
  rw [Int.toNat_natCast, nl_length y, Int.toNat_natCast, hn, nl_take, show List.replicate (x.length - (n + 2) + 1) (0 : Int) = nl (List.replicate (x.length - (n + 2) + 1) 0) from nl_replicate _ 0, nl_length, List.length_replicate, wrap_id (by omega) (by omega)]
  exact r8

/-! ### numbers -/
theorem limbs_L {n : Nat} (h : ln n ≤ 1099511627776) : nat_Nat_Limbs.f (L n) = some (L n) := limbs_nl (by rw [L_length]; exact h)
theorem qdiv0 {a : Nat} (ha : ln a ≤ 1099511627776) : Ev (fun k => quot_Div.f k (L a) (L 0)) (([] : List Int), ([] : List Int), false) := by
  refine Ev.congr (fun k => by unfold quot_Div.f; rw [limbs_L ha]) ?_
  refine ev_some rfl (ev_some (limbs_L (n := 0) (by decide)) (ev_pos rfl (Ev.now _)))
theorem qdiv {a b : Nat} (hb : 0 < b) (ha : ln a ≤ 34359738368) (hlb : ln b ≤ 34359738368) : Ev (fun k => quot_Div.f k (L a) (L b)) (L (a / b), L (a % b), true) := by
  refine Ev.congr (fun k => by unfold quot_Div.f; rw [limbs_L (n := a) (by omega)]) ?_
  refine ev_some rfl (ev_some (limbs_L (n := b) (by omega)) ?_)
  have hb1 : 0 < ln b := by
    rcases Nat.eq_zero_or_pos (ln b) with h | h
    · exfalso
      have := (dg_len b32 b 0).mp (by unfold ln at h; omega)
      omega
    · exact h
  refine ev_neg (by rw [L_length]; omega) ?_
  by_cases hlt : ln a < ln b
  · have hab : a < b := len_cmp b32 hlt
    refine ev_pos (by rw [L_length, L_length]; omega) (ev_now ?_)
    rw [Nat.div_eq_of_lt hab, Nat.mod_eq_of_lt hab]; rfl
  · refine ev_neg (by rw [L_length, L_length]; omega) ?_
    by_cases h1 : ln b = 1
    · have hbB : b < 4294967296 := by
        have := (dg_len b32 b 1).mp (by unfold ln at h1; omega)
        omega
      obtain ⟨Q, q1, q2, q3, q4⟩ := qsmall (x := dg 4294967296 a) (d := b) (Dg_dg b32 a) hb hbB (by unfold ln at ha; omega)
      rw [val_dg b32] at q3 q4
      have hr : a % b < b := Nat.mod_lt _ hb
      have hrd : rd (L b) 0 = (b : Int) := by
        have e : L b = nl (b :: dg 4294967296 (b / 4294967296)) := by unfold L; rw [dg_pos b32 hb, Nat.mod_eq_of_lt hbB]
        rw [e]
        exact rd_nl (b :: dg 4294967296 (b / 4294967296)) 0
      have hm := made_val (l := Q) (by rw [q1]; unfold ln at ha; omega) q2
      rw [q3] at hm
      refine ev_pos (by rw [L_length]; omega) (ev_pos (by rw [L_length]; omega) ?_)
      rw [hrd]
      refine Ev.bind q4 (Ev.bind hm ?_)
      rw [wrap_u64_nat (by omega)]
      exact Ev.bind (of_val (by omega)) (Ev.now _)
    · refine ev_neg (by rw [L_length]; omega) ?_
      have hl := dg_last b32 hb
      obtain ⟨n, hn⟩ : ∃ n, (dg 4294967296 b).length = n + 2 := ⟨ln b - 2, by unfold ln at *; omega⟩
      rw [hn] at hl
      obtain ⟨Q, R, q1, q2, q3, q4, q5, q6, q7⟩ := qlong (x := dg 4294967296 a) (y := dg 4294967296 b) (Dg_dg b32 a) (Dg_dg b32 b) hn (by unfold ln at hlt; omega) (by unfold ln at ha; omega) hl
      rw [val_dg b32, val_dg b32] at q5 q6
      have hm1 := made_val (l := Q) (by unfold ln at ha; omega) q2
      have hm2 := made_val (l := R) (by unfold ln at ha; omega) q4
      rw [q5] at hm1
      rw [q6] at hm2
      exact Ev.bind q7 (Ev.bind hm1 (Ev.bind hm2 (Ev.now _)))

/-! ### the document's quotient -/
theorem rdiv_loop (a : List Nat) (b : Nat) (hd : Dg 10 a) (hb : 0 < b) (hl : a.length ≤ 1073741824) (hlb : dn b ≤ 1073741824) : ∀ (i : Nat) (q : List Nat), i ≤ a.length → q.length = a.length → Dg 10 q → (∀ j, j < i → gd q j = 0) → val 10 (q.drop i) = val 10 (a.drop i) / b →
    Ev (fun k => numeraryref02_Div.l0 k (nl a) (D b) (nl q) (D (val 10 (a.drop i) % b)) ((i : Int) - 1)) (D (val 10 a / b), D (val 10 a % b)) := by
  intro i
  induction i with
  | zero =>
    intro q hi hq hdq hz hv
    rw [List.drop_zero, List.drop_zero] at hv
    rw [List.drop_zero]
    refine Ev.step (fun k => by rw [numeraryref02_Div.l0]) ?_
    have h1 := rtrim_val (l := q) (by omega) hdq
    rw [hv] at h1
    exact ev_neg (by omega) (Ev.bind h1 (Ev.now _))
  | succ i ih =>
    intro q hi hq hdq hz hv
    have hg := hd.gd (by decide) i
    have hxd := val_drop 10 a i (by omega)
    obtain ⟨rest, hrest⟩ : ∃ r, val 10 (a.drop (i + 1)) % b = r := ⟨_, rfl⟩
    obtain ⟨quo, hquo⟩ : ∃ r, val 10 (a.drop (i + 1)) / b = r := ⟨_, rfl⟩
    have hm := Nat.mod_add_div (val 10 (a.drop (i + 1))) b
    have hrl : rest < b := by rw [← hrest]; exact Nat.mod_lt _ hb
    rw [hrest, hquo] at hm
    rw [hquo] at hv
    obtain ⟨g, hgg⟩ : ∃ g, gd a i = g := ⟨_, rfl⟩
    rw [hgg] at hxd hg
    have hxv : val 10 (a.drop i) = (10 * rest + g) + b * (10 * quo) := by
      rw [hxd, ← hm, Nat.mul_left_comm b]; omega
    have ht10 : (10 * rest + g) < 10 * b := by omega
    rw [show (((i + 1 : Nat) : Int) - 1) = (i : Int) by omega, hrest]
    refine Ev.step (fun k => by rw [numeraryref02_Div.l0]) ?_
    have hdr := dn_mono (Nat.le_of_lt hrl)
    have d10 := dn_small (n := 10) (by decide)
    have hdg := dn_small (n := g) (by omega)
    have hdm := dn_mul rest 10
    have hda := dn_add (rest * 10) g
    refine ev_pos (by omega) (Ev.bind (rtimes_D (by omega) (by decide)) (ev_pos (by omega) (ev_pos (by rw [nl_length]; omega) ?_)))
    rw [rd_nl, hgg, wrap_u64_nat (by omega)]
    have hln2 : dn (rest * 10) ≤ 549755813888 := by omega
    have hln3 : dn g ≤ 549755813888 := by omega
    refine Ev.bind (rof_val (by omega)) (Ev.bind (radd_D hln2 hln3) ?_)
    -- so many times the divisor is taken off
    have inner : ∀ (f c : Nat) (q' : List Nat), (10 * rest + g) - c * b ≤ f → c * b ≤ 10 * rest + g → c < 11 → q'.length = a.length → Dg 10 q' → (∀ j, j < i → gd q' j = 0) → gd q' i = c → q'.drop (i + 1) = q.drop (i + 1) →
        Ev (fun k => numeraryref02_Div.l1 k (nl a) (D b) (nl q') (D ((10 * rest + g) - c * b)) (i : Int)) (D (val 10 a / b), D (val 10 a % b)) := by
      intro f
      induction f with
      | zero =>
        intro c q' hf hcb hc hq' hdq' hz' hg' hdr'
        refine Ev.step (fun k => by rw [numeraryref02_Div.l1]) ?_
        have hlt0 : (10 * rest + g) - c * b < b := by omega
        have hdt := dn_mono (Nat.le_of_lt hlt0)
        refine Ev.bind (rcmp_D (by omega) (by omega)) (ev_pos (cmpI_lt.mpr hlt0) ?_)
        have ht : 10 * rest + g = b * c + ((10 * rest + g) - c * b) := by rw [Nat.mul_comm b]; omega
        have e1 : val 10 (a.drop i) / b = c + 10 * quo := by
          rw [hxv, Nat.add_mul_div_left _ _ hb, ht, Nat.mul_add_div hb, Nat.div_eq_of_lt hlt0, Nat.add_zero]
        have e2 : val 10 (a.drop i) % b = (10 * rest + g) - c * b := by
          rw [hxv, Nat.add_mul_mod_self_left]
          conv => lhs; rw [ht]
          rw [Nat.mul_add_mod, Nat.mod_eq_of_lt hlt0]
        have := ih q' (by omega) hq' hdq' hz' (by rw [val_drop _ _ _ (by omega), hg', hdr', hv, e1])
        rw [e2] at this
        rw [wrap_id (by omega) (by omega)]
        exact this
      | succ f ihf =>
        intro c q' hf hcb hc hq' hdq' hz' hg' hdr'
        by_cases hlt0 : (10 * rest + g) - c * b < b
        · refine Ev.step (fun k => by rw [numeraryref02_Div.l1]) ?_
          have hdt := dn_mono (Nat.le_of_lt hlt0)
          refine Ev.bind (rcmp_D (by omega) (by omega)) (ev_pos (cmpI_lt.mpr hlt0) ?_)
          have ht : 10 * rest + g = b * c + ((10 * rest + g) - c * b) := by rw [Nat.mul_comm b]; omega
          have e1 : val 10 (a.drop i) / b = c + 10 * quo := by
            rw [hxv, Nat.add_mul_div_left _ _ hb, ht, Nat.mul_add_div hb, Nat.div_eq_of_lt hlt0, Nat.add_zero]
          have e2 : val 10 (a.drop i) % b = (10 * rest + g) - c * b := by
            rw [hxv, Nat.add_mul_mod_self_left]
            conv => lhs; rw [ht]
            rw [Nat.mul_add_mod, Nat.mod_eq_of_lt hlt0]
          have := ih q' (by omega) hq' hdq' hz' (by rw [val_drop _ _ _ (by omega), hg', hdr', hv, e1])
          rw [e2] at this
          rw [wrap_id (by omega) (by omega)]
          exact this
        · refine Ev.step (fun k => by rw [numeraryref02_Div.l1]) ?_
          have hcc : (c + 1) * b = c * b + b := Nat.succ_mul c b
          have hc9 : c < 9 := by
            rcases Nat.lt_or_ge c 9 with h | h
            · exact h
            · exfalso
              have := Nat.mul_le_mul_right b h
              omega
          have hdt := dn_mono (show (10 * rest + g) - c * b ≤ rest * 10 + g by omega)
          refine Ev.bind (rcmp_D (by omega) (by omega)) (ev_neg (by intro h; have := cmpI_lt.mp h; omega) ?_)
          refine Ev.bind (rsub_D (by omega) (by omega)) (ev_pos (by omega) (ev_pos (by rw [nl_length]; omega) ?_))
          rw [rd_nl, hg', succ_wrap (by omega), Int.toNat_natCast, nl_set, show (10 * rest + g) - c * b - b = (10 * rest + g) - (c + 1) * b by omega]
          exact ihf (c + 1) (q'.set i (c + 1)) (by omega) (by omega) (by omega) (by rw [List.length_set]; exact hq') (hdq'.set i (by omega)) (fun j hj => by rw [gd_set _ _ _ _ (by omega), if_neg (by omega)]; exact hz' j hj) (by rw [gd_set _ _ _ _ (by omega), if_pos rfl]) (by rw [drop_set_succ]; exact hdr')
    have := inner (10 * rest + g) 0 q (by omega) (by omega) (by omega) hq hdq (fun j hj => hz j (by omega)) (hz i (by omega)) rfl
    rw [Nat.zero_mul, Nat.sub_zero, Nat.mul_comm 10] at this
    exact this
theorem rdiv_D {a b : Nat} (hb : 0 < b) (ha : dn a ≤ 1073741824) (hlb : dn b ≤ 1073741824) : Ev (fun k => numeraryref02_Div.f k (D a) (D b)) (D (a / b), D (a % b)) := by
  have := rdiv_loop (dg 10 a) b (Dg_dg b10 a) hb ha hlb (dg 10 a).length (List.replicate (dg 10 a).length 0) (Nat.le_refl _) (by rw [List.length_replicate]) (Dg.replicate (by decide) _) (fun j _ => gd_replicate _ _) (by rw [List.drop_of_length_le (by rw [List.length_replicate]; exact Nat.le_refl _), List.drop_of_length_le (Nat.le_refl _)]; exact (Nat.zero_div b).symm)
  rw [List.drop_of_length_le (Nat.le_refl _), show val 10 [] % b = 0 from Nat.zero_mod b, val_dg b10] at this
  unfold dn at ha
  refine Ev.congr (fun k => by unfold numeraryref02_Div.f; rw [D_length, Int.toNat_natCast, wrap_id (by unfold dn; omega) (by unfold dn; omega)]) ?_
  refine ev_pos (by omega) (ev_pos (by unfold dn; omega) ?_)
  rw [show List.replicate (dn a) (0 : Int) = nl (List.replicate (dn a) 0) from nl_replicate _ 0]
  exact this
end Go.Proofs.Ytcepdndhkidehaa.M
end
section
namespace Go.Proofs.Ytcepdndhkidehaa.M
open Go.RowKit Go.Proofs.YtcepdndhkidehaaW.PrintWords Go.Proofs.YtcepdndhkidehaaW.PrintLast Go.Proofs.YtcepdndhkidehaaW.PrintMore Go.Proofs.Ytcepdndhkidehaa.PA
set_option linter.unusedVariables false
set_option linter.unusedSimpArgs false
theorem wakes04 : Ev (fun k => numerarylaw04_wakes.f k) true := Ev.of numerarylaw04_wakes.mono numerarylaw04_wakes.is_
theorem few04 (l : List Nat) {N : Int} (n : Nat) (h : N = (n : Int)) : numerarylaw04_few.f (nl l) N = some (nl (l.take n)) := by
  obtain ⟨h1, h2, h3⟩ := few_of (l := l) n h
  unfold numerarylaw04_few.f
  rw [if_pos h2, if_pos h3]
  exact congrArg some h1
theorem of04 {n : Nat} (h : ln n ≤ 1073741824) : Ev (fun k => numerarylaw04_of.f k (L n)) (D n) :=
  ev_some (limbs_nl (by rw [L_length]; omega)) (Ev.bind (rmade_L h) (Ev.now _))
end Go.Proofs.Ytcepdndhkidehaa.M
end
section
namespace Go.Proofs.Ytcepdndhkidehaa.Pure
open Go.RowKit Go.Proofs.Ytcepdndhkidehaa.PA Go.Proofs.YtcepdndhkidehaaW.PrintWords Go.Proofs.YtcepdndhkidehaaW.PrintLast Go.Proofs.Ytcepdndhkidehaa.M
set_option linter.unusedVariables false
theorem QuotDivides : numerarylaw04_QuotDivides.Pure := by
  intro l0 l1 _ _ h0 _ _ h1
  obtain ⟨s, rfl, hs⟩ := num_in h0
  obtain ⟨t, rfl, ht⟩ := num_in h1
  obtain ⟨a, la, ma, ra⟩ := hs 12 (by omega)
  obtain ⟨b, lb, mb, rb⟩ := ht 8 (by omega)
  have hda := dn_le_ln a
  have hdb := dn_le_ln b
  refine Ev.rounds ?_
  refine ev_some (few04 s 12 rfl) (ev_some (few04 t 8 rfl) (Ev.bind ma (Ev.bind mb ?_)))
  rcases Nat.eq_zero_or_pos b with rfl | hb
  · refine Ev.bind (qdiv0 (by omega)) (Ev.bind ra (Ev.bind rb (ev_pos rfl (Ev.bind wakes04 (ev_pos rfl (ev_neg (by decide) ?_))))))
    exact ev_some (nbits (n := 0) (by decide)) (ev_some (nbits (n := 0) (by decide)) (ev_now (beq_iff_eq.mpr (by rw [bl_zero, wrap_id] <;> omega))))
  · have hd0 : dn b ≠ 0 := by
      intro h
      have := (dg_len b10 b 0).mp (by unfold dn at h; omega)
      omega
    have hq := ln_mono (Nat.div_le_self a b)
    have hr := ln_mono (Nat.mod_le a b)
    have hdq := dn_mono (Nat.div_le_self a b)
    have hdr := dn_mono (Nat.mod_le a b)
    refine Ev.bind (qdiv hb (by omega) (by omega)) (Ev.bind ra (Ev.bind rb (ev_neg (by rw [D_length]; omega) ?_)))
    refine Ev.bind (rdiv_D hb (by omega) (by omega)) (Ev.bind wakes04 (ev_pos rfl (ev_pos rfl ?_)))
    refine Ev.bind (of04 (by omega)) (Ev.bind (rcmp_D (by omega) (by omega)) (ev_pos (cmpI_self _) ?_))
    refine Ev.bind (of04 (by omega)) (Ev.bind (rcmp_D (by omega) (by omega)) (ev_now ?_))
    rw [cmpI_self]; rfl
end Go.Proofs.Ytcepdndhkidehaa.Pure
end
section
namespace Go.Proofs.Ytcepdndhkidehaa.quotDivides
open Go.ChangeShapes Go.WideShapes Go.ChangeAt Go.RowKit
open Go.ChangeMaps (open_string shut_string)
set_option linter.unusedVariables false
theorem own : ownKnob Try.prog.godebug = none := by kernel_rfl
theorem laidOut : laidOutB Try.prog = true := by kernel_rfl
def IsRow (k : IntKind) (w : World) (a : Option Addr) (len cap : Nat) (zs : List Int) : Prop :=
  (a = none ∧ len = 0 ∧ cap = 0 ∧ zs = []) ∨
  ∃ x, a = some x ∧ len ≤ cap ∧ cap ≤ maxLen ∧ zs.length = cap ∧ (∀ i, i < zs.length → w.cell? (x.add i) = some (.int k (zs.getD i 0))) ∧ ∀ n ∈ zs, (Lit.int k n).wf = true
set_option maxRecDepth 100000 in
theorem lifted (os : Os) (started : os.Started) (H : Type) (enc : TypeId × Value → H) :
    ReturnsInHanded {} Try.checked os 12 .any (Rows.quotDividesSpec.pre6 enc Try.prog Try.f12 Rows.quotDividesRow.domain false) (Rows.quotDividesSpec.post enc Try.prog Try.f12 false true false false) := by
  refine returnsInHanded_of_change_sized (C := Try.checked) own started (by kernel_rfl) Try.func12
    (ChangeSpec.witness6 (enc := enc) (C := Try.checked) false ⟨#[], #[.slice none 0 0, .slice none 0 0], []⟩ 8 (by kernel_rfl) (by kernel_rfl) (by kernel_rfl) (by kernel_rfl)) ?_
  intro W base args ds gs before hval0 hW hcnd hsz0 _
  have hsz : (DataW.weightsEach Try.prog (Try.f12.params.toList ++ Rows.quotDividesSpec.plain.varTypes Try.prog) (ds ++ gs)).all (· ≤ reachBytes) = true := hsz0
  have hval : ∀ (j : Nat) t v, Try.f12.params[j]? = some t → args[j]? = some v → Value.okWide Try.prog W .any base t v := hval0
  have hW' := hW
  obtain ⟨p, q, hA0, hV, rfl, hfz, hnd⟩ := hW
  have hA : DataW.TrodAll enc Try.prog W 0 (fun _ => true) true Try.f12.params.toList args.toList ds p := hA0
  rw [Try.params12] at hA hval hsz
  obtain ⟨v0, vs0, d0, ds0, p0, q0, hargs, rfl, rfl, h0, r0⟩ := trodAll_cons hA
  obtain ⟨v1, vs1, d1, ds1, p1, q1, rfl, rfl, rfl, h1, r1⟩ := trodAll_cons r0
  obtain ⟨rfl, rfl, rfl⟩ := trodAll_nil r1
  obtain rfl : args = #[v0, v1] := by cases args; simp_all
  obtain ⟨rfl, rfl⟩ := trodVars_none hV
  obtain ⟨a0, len0, cap0, rfl⟩ := okWide_slice Try.underlying22 (hval 0 22 v0 rfl rfl)
  have k0 := h0
  have lt0 : ∀ x ∈ p0, x.block < W.heap.size := by obtain ⟨m, hm⟩ := k0; exact DataW.trod_lt m _ _ _ hm
  obtain ⟨z0, w0⟩ : ∃ zs, IsRow .u32 W a0 len0 cap0 zs := by
    obtain ⟨fuel, hf⟩ := h0
    rcases open_ints Try.underlying22 Try.underlying23 (by kernel_rfl) hf with ⟨hcs, _⟩ | ⟨x, l, c, zs, hcs, _, hl, hm, hz, _, hcell, hwz⟩
    · simp [Value.cells] at hcs
      obtain ⟨rfl, rfl, rfl⟩ := hcs
      exact ⟨[], .inl ⟨rfl, rfl, rfl, rfl⟩⟩
    · simp [Value.cells] at hcs
      obtain ⟨rfl, rfl, rfl⟩ := hcs
      exact ⟨zs, .inr ⟨_, rfl, hl, hm, by simpa using hz, hcell, hwz⟩⟩
  have y0 : len0 * 4 ≤ 140737488351232 := Go.Proofs.YtcepdndhkidehaaW.PrintWords.sized_ints hsz (j := 0) (t := 22) rfl rfl Try.underlying22 Try.underlying23 (by kernel_rfl) (by kernel_rfl) h0
  obtain ⟨a1, len1, cap1, rfl⟩ := okWide_slice Try.underlying22 (hval 1 22 v1 rfl rfl)
  have k1 := h1
  have lt1 : ∀ x ∈ p1, x.block < W.heap.size := by obtain ⟨m, hm⟩ := k1; exact DataW.trod_lt m _ _ _ hm
  obtain ⟨z1, w1⟩ : ∃ zs, IsRow .u32 W a1 len1 cap1 zs := by
    obtain ⟨fuel, hf⟩ := h1
    rcases open_ints Try.underlying22 Try.underlying23 (by kernel_rfl) hf with ⟨hcs, _⟩ | ⟨x, l, c, zs, hcs, _, hl, hm, hz, _, hcell, hwz⟩
    · simp [Value.cells] at hcs
      obtain ⟨rfl, rfl, rfl⟩ := hcs
      exact ⟨[], .inl ⟨rfl, rfl, rfl, rfl⟩⟩
    · simp [Value.cells] at hcs
      obtain ⟨rfl, rfl, rfl⟩ := hcs
      exact ⟨zs, .inr ⟨_, rfl, hl, hm, by simpa using hz, hcell, hwz⟩⟩
  have y1 : len1 * 4 ≤ 140737488351232 := Go.Proofs.YtcepdndhkidehaaW.PrintWords.sized_ints hsz (j := 1) (t := 22) rfl rfl Try.underlying22 Try.underlying23 (by kernel_rfl) (by kernel_rfl) h1
  clear hA0 hval0 hsz0 hsz
  refine (PA.numerarylaw04_QuotDivides.walk Pure.QuotDivides a0 len0 cap0 z0 a1 len1 cap1 z1 W w0 y0 w1 y1).mono fun e W' ⟨he, bel⟩ => ?_
  subst he
  exact ⟨_, rfl, _, _, _, [], _, [], hW', trodAll_mk1 (shut_bool Try.underlying4 _), (trodAll_cons_mk (Below.trod laidOut (by kernel_rfl) (of_decide_eq_true (by kernel_rfl)) k0 bel lt0) (trodAll_cons_mk (Below.trod laidOut (by kernel_rfl) (of_decide_eq_true (by kernel_rfl)) k1 bel lt1) trodAll_mk0)), rfl, bel.frame _, fun h => by cases h⟩
theorem over : Rows.quotDividesRow.holds Try.pinned (OpenSpec.ofChange Rows.quotDividesSpec) :=
  OpenClaim.holds_of_wide 12 Try.f12 rfl rfl rfl rfl rfl rfl rfl ⟨rfl, rfl, rfl, rfl, rfl⟩ rfl rfl rfl rfl rfl (by kernel_rfl) Try.func12 (by kernel_rfl)
    (of_decide_eq_true (by kernel_rfl)) (by unfold Func.isWrapper; first | (rw [if_pos (by decide +kernel)]; kernel_rfl) | (rw [if_neg (by decide +kernel)]; exact ⟨rfl, rfl⟩))
    (fun os started H enc _ => lifted os started H enc)
theorem proved : Rows.QuotDividesSaid := over
#print axioms proved
end Go.Proofs.Ytcepdndhkidehaa.quotDivides
namespace Go.Proofs.Ytcepdndhkidehaa
/-- The row, under a short name, for the claim. -/
theorem quotDivides_holds : Rows.QuotDividesSaid := quotDivides.proved
end Go.Proofs.Ytcepdndhkidehaa
end
