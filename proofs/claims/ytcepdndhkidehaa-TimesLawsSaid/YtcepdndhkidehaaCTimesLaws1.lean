/- Texts that the proof of TimesLaws stands on, part 1. -/
import Derived.Test.YtcepdndhkidehaaCTimesLaws0
section
namespace Go.Proofs.Ytcepdndhkidehaa.PA
open Go.RowKit Go.Proofs.YtcepdndhkidehaaW.PrintWords Go.Proofs.YtcepdndhkidehaaW.PrintLast Go.Proofs.YtcepdndhkidehaaW.PrintMore
attribute [local go_sem] max2_int min2_int max_two min_two max_three min_three max_four min_four   -- for this text's walks alone
set_option linter.unusedVariables false
set_option linter.unusedSimpArgs false

/-! ### nat_Cmp: function 37 -/
def nat_Cmp.l0 : Nat → Int → List Int → List Int → Option (Int)
  | 0, _, _, _ => none
  | k + 1, x6, x358000, x359000 => if x6 ≥ 0 then (if 0 ≤ x6 then (if x6 < (x358000.length : Int) then (if x6 < (x359000.length : Int) then ((cmp_Compare_uint32.f (rd x358000 x6) (rd x359000 x6)).bind fun t362 => (if t362 = 0 then (nat_Cmp.l0 k (wrap64 (x6 - 1)) x358000 x359000) else (some t362))) else (none)) else (none)) else (none)) else (some 0)
def nat_Cmp.f (k : Nat) (l0_0 : List Int) (l1_0 : List Int) : Option (Int) := (cmp_Compare_int.f (l0_0.length : Int) (l1_0.length : Int)).bind fun t359 => (if t359 = 0 then (nat_Cmp.l0 k (wrap64 ((l0_0.length : Int) - 1)) l0_0 l1_0) else (some t359))
theorem nat_Cmp.mono_l : ∀ k, (∀ y0 y1 y2, LeO (nat_Cmp.l0 k y0 y1 y2) (nat_Cmp.l0 (k + 1) y0 y1 y2))
  | 0 => fun _ _ _ r h => by simp [nat_Cmp.l0] at h
  | k + 1 => by
    have ih0 := nat_Cmp.mono_l k
    · intro y0 y1 y2
      unfold nat_Cmp.l0
      repeat' first
      | (with_reducible exact ih0 _ _ _)
      | (with_reducible exact LeO.refl _)
      | (with_reducible exact LeO.none _)
      | (with_reducible refine LeO.ite ?_ ?_)
      | (with_reducible refine LeO.bind ?_ (fun _ => ?_))
      | exact ih0 _ _ _
      | exact LeO.none _
      | refine LeO.ite ?_ ?_
      | refine LeO.bind ?_ (fun _ => ?_)
theorem nat_Cmp.mono : ∀ a0 a1 k, LeO (nat_Cmp.f k a0 a1) (nat_Cmp.f (k + 1) a0 a1) := by
  intro a0 a1 k
  have ih0 := nat_Cmp.mono_l k
  unfold nat_Cmp.f
  repeat' first
      | (with_reducible exact ih0 _ _ _)
      | (with_reducible exact LeO.refl _)
      | (with_reducible exact LeO.none _)
      | (with_reducible refine LeO.ite ?_ ?_)
      | (with_reducible refine LeO.bind ?_ (fun _ => ?_))
      | exact ih0 _ _ _
      | exact LeO.none _
      | refine LeO.ite ?_ ?_
      | refine LeO.bind ?_ (fun _ => ?_)
set_option maxHeartbeats 8000000 in
set_option maxRecDepth 100000 in
theorem nat_Cmp.calls (k : Nat) (A0_0 : Option Addr) (c0_0 : Nat) (l0_0 : List Int) (A1_0 : Option Addr) (c1_0 : Nat) (l1_0 : List Int) (r : Int) (w : World) (hr0_0 : Kd.C (Kd.int .u32) w A0_0 l0_0.length l0_0) (hc0_0 : l0_0.length ≤ c0_0) (hr1_0 : Kd.C (Kd.int .u32) w A1_0 l1_0.length l1_0) (hc1_0 : l1_0.length ≤ c1_0) (h : nat_Cmp.f k l0_0 l1_0 = some r) :
    Calls Try.prog 37 #[.agg #[.slice A0_0 l0_0.length c0_0], .agg #[.slice A1_0 l1_0.length c1_0]] w fun e w' => e = .returned (.int .i64 r) ∧ Below w.heap.size w w' := by
  have hu25 := Try.underlying25
  have HR0_0 := Aside0.mk hr0_0
  have HC0_0 := Aside0.mk hc0_0
  clear hr0_0 hc0_0
  have HR1_0 := Aside0.mk hr1_0
  have HC1_0 := Aside0.mk hc1_0
  clear hr1_0 hc1_0
  have HB := Aside0.mk (Below.refl w.heap.size w)
  have H : ((cmp_Compare_int.f (l0_0.length : Int) (l1_0.length : Int)).bind fun t359 => (if t359 = 0 then (nat_Cmp.l0 k (wrap64 ((l0_0.length : Int) - 1)) l0_0 l1_0) else (some t359))) = some r := h
  clear h
  replace H := Option.bind_eq_some_iff.mp H
  obtain ⟨t359, A30, H⟩ := H
  replace H : (if t359 = 0 then (nat_Cmp.l0 k (wrap64 ((l0_0.length : Int) - 1)) l0_0 l1_0) else (some t359)) = some r := H
  have A3 := Aside0.mk A30
  clear A30
  by_cases c4 : t359 = 0
  · rw [if_pos c4] at H
    have c4b0 : (t359 == 0) = true := beq_iff_eq.mpr c4
    have c4b1 : (t359 != 0) = false := bne_eq_false_iff_eq.mpr c4
    clear c4
    have H' := Aside0.mk H
    clear H
    go_enter Try.func37, Try.ntmps37
    go_wp2_with (first | ((with_reducible refine gate_dst (N := 2) rfl ?_); refine box_event ?hg (N := 2) ?hd (cs := #[.slice A0_0 l0_0.length c0_0]) (t := 25) ?hr ?_; (case hd => rfl); (case hg => rfl); (case hr => first | (go_simp; done) | (go_simp; rfl)); intro gb357 hg w5 hbox hb; have n0_ := Aside0.mk (below_step (by repeat (first | (with_reducible first | exact HB.out | apply below_alloc | apply pw_below_drewN | apply below_drew1) | exact HB.out)) hb); have n1_ := Aside0.mk (hbox); have n2_ := Aside0.mk ((by rw [hg]; exact (below_size (by repeat (first | (with_reducible first | exact HB.out | apply below_alloc | apply pw_below_drewN | apply below_drew1) | exact HB.out))) : w.heap.size ≤ gb357)); have n3_ := Aside0.mk ((by rw [hg]; exact (below_size (by repeat (first | (with_reducible first | exact HB.out | apply below_alloc | apply pw_below_drewN | apply below_drew1) | exact HB.out))) : w.heap.size ≤ gb357)); clear HB; have HB := n0_; have BK357 := n1_; have GW357 := n2_; have GE357 := n3_; clear n0_ n1_ n2_ n3_; clear hb hbox hg) | ((with_reducible refine gate_dst (N := 3) rfl ?_); refine box_event ?hg (N := 3) ?hd (cs := #[.slice A1_0 l1_0.length c1_0]) (t := 25) ?hr ?_; (case hd => rfl); (case hg => rfl); (case hr => first | (go_simp; done) | (go_simp; rfl)); intro gb358 hg w6 hbox hb; have n0_ := Aside0.mk (blk_below (g := gb357) (o := .cells #[.slice A0_0 l0_0.length c0_0] 25 (0, 0)) (by (with_reducible repeat (first | refine blk_drewN ?_ _ | refine blk_drew ?_ | refine blk_alloc ?_ _)); exact BK357.out) hb); have n1_ := Aside0.mk (below_step (by repeat (first | (with_reducible first | exact HB.out | apply below_alloc | apply pw_below_drewN | apply below_drew1 | refine below_set ?_ GE357.out) | exact HB.out)) hb); have n2_ := Aside0.mk (hbox); have n3_ := Aside0.mk ((by rw [hg]; exact (below_size (by repeat (first | (with_reducible first | exact HB.out | apply below_alloc | apply pw_below_drewN | apply below_drew1 | refine below_set ?_ GE357.out) | exact HB.out))) : w.heap.size ≤ gb358)); have n4_ := Aside0.mk ((by rw [hg]; exact (below_size (by repeat (first | (with_reducible first | exact HB.out | apply below_alloc | apply pw_below_drewN | apply below_drew1 | refine below_set ?_ GE357.out) | exact HB.out))) : w.heap.size ≤ gb358)); have n5_ := Aside0.mk ((by rw [hg]; exact Nat.ne_of_lt (blk_lt (g := gb357) (o := .cells #[.slice A0_0 l0_0.length c0_0] 25 (0, 0)) (by (with_reducible repeat (first | refine blk_drewN ?_ _ | refine blk_drew ?_ | refine blk_alloc ?_ _)); exact BK357.out)) : gb357 ≠ gb358)); have n6_ := Aside0.mk ((by rw [hg]; exact Nat.ne_of_gt (blk_lt (g := gb357) (o := .cells #[.slice A0_0 l0_0.length c0_0] 25 (0, 0)) (by (with_reducible repeat (first | refine blk_drewN ?_ _ | refine blk_drew ?_ | refine blk_alloc ?_ _)); exact BK357.out)) : gb358 ≠ gb357)); clear BK357; clear HB; have BK357 := n0_; have HB := n1_; have BK358 := n2_; have GW358 := n3_; have GE358 := n4_; have NB357_358 := n5_; have NB358_357 := n6_; clear n0_ n1_ n2_ n3_ n4_ n5_ n6_; clear hb hbox hg; have hnb7 := NB357_358.out; have hnc7 := NB358_357.out; have hcz8_0 : w6.cell? ⟨gb357, 0, none⟩ = some (.slice A0_0 l0_0.length c0_0) := (blk_cell BK357.out 0).trans rfl; have hfz8_0 := blk_frozen BK357.out 0; have hcz9_0 : w6.cell? ⟨gb358, 0, none⟩ = some (.slice A1_0 l1_0.length c1_0) := (blk_cell BK358.out 0).trans rfl; have hfz9_0 := blk_frozen BK358.out 0) | (go_at_call 54; (with_reducible refine (cmp_Compare_int.calls (l0_0.length : Int) (l1_0.length : Int) t359 _ A3.out).mono ?_); rintro e w' ⟨rfl, ⟨nd, rfl⟩⟩; (try first | exact ⟨rfl, _, World.drewN_drewN _ _ _⟩ | exact ⟨rfl, _, Eq.trans (World.drewN_drewN _ _ _) (congrArg (World.drewN _) (Nat.add_assoc _ _ _))⟩)))
    repeat (go_quiet (first | ((with_reducible refine gate_dst (N := 2) rfl ?_); refine box_event ?hg (N := 2) ?hd (cs := #[.slice A0_0 l0_0.length c0_0]) (t := 25) ?hr ?_; (case hd => rfl); (case hg => rfl); (case hr => first | (go_simp; done) | (go_simp; rfl)); intro gb357 hg w5 hbox hb; have n0_ := Aside0.mk (below_step (by repeat (first | (with_reducible first | exact HB.out | apply below_alloc | apply pw_below_drewN | apply below_drew1) | exact HB.out)) hb); have n1_ := Aside0.mk (hbox); have n2_ := Aside0.mk ((by rw [hg]; exact (below_size (by repeat (first | (with_reducible first | exact HB.out | apply below_alloc | apply pw_below_drewN | apply below_drew1) | exact HB.out))) : w.heap.size ≤ gb357)); have n3_ := Aside0.mk ((by rw [hg]; exact (below_size (by repeat (first | (with_reducible first | exact HB.out | apply below_alloc | apply pw_below_drewN | apply below_drew1) | exact HB.out))) : w.heap.size ≤ gb357)); clear HB; have HB := n0_; have BK357 := n1_; have GW357 := n2_; have GE357 := n3_; clear n0_ n1_ n2_ n3_; clear hb hbox hg) | ((with_reducible refine gate_dst (N := 3) rfl ?_); refine box_event ?hg (N := 3) ?hd (cs := #[.slice A1_0 l1_0.length c1_0]) (t := 25) ?hr ?_; (case hd => rfl); (case hg => rfl); (case hr => first | (go_simp; done) | (go_simp; rfl)); intro gb358 hg w6 hbox hb; have n0_ := Aside0.mk (blk_below (g := gb357) (o := .cells #[.slice A0_0 l0_0.length c0_0] 25 (0, 0)) (by (with_reducible repeat (first | refine blk_drewN ?_ _ | refine blk_drew ?_ | refine blk_alloc ?_ _)); exact BK357.out) hb); have n1_ := Aside0.mk (below_step (by repeat (first | (with_reducible first | exact HB.out | apply below_alloc | apply pw_below_drewN | apply below_drew1 | refine below_set ?_ GE357.out) | exact HB.out)) hb); have n2_ := Aside0.mk (hbox); have n3_ := Aside0.mk ((by rw [hg]; exact (below_size (by repeat (first | (with_reducible first | exact HB.out | apply below_alloc | apply pw_below_drewN | apply below_drew1 | refine below_set ?_ GE357.out) | exact HB.out))) : w.heap.size ≤ gb358)); have n4_ := Aside0.mk ((by rw [hg]; exact (below_size (by repeat (first | (with_reducible first | exact HB.out | apply below_alloc | apply pw_below_drewN | apply below_drew1 | refine below_set ?_ GE357.out) | exact HB.out))) : w.heap.size ≤ gb358)); have n5_ := Aside0.mk ((by rw [hg]; exact Nat.ne_of_lt (blk_lt (g := gb357) (o := .cells #[.slice A0_0 l0_0.length c0_0] 25 (0, 0)) (by (with_reducible repeat (first | refine blk_drewN ?_ _ | refine blk_drew ?_ | refine blk_alloc ?_ _)); exact BK357.out)) : gb357 ≠ gb358)); have n6_ := Aside0.mk ((by rw [hg]; exact Nat.ne_of_gt (blk_lt (g := gb357) (o := .cells #[.slice A0_0 l0_0.length c0_0] 25 (0, 0)) (by (with_reducible repeat (first | refine blk_drewN ?_ _ | refine blk_drew ?_ | refine blk_alloc ?_ _)); exact BK357.out)) : gb358 ≠ gb357)); clear BK357; clear HB; have BK357 := n0_; have HB := n1_; have BK358 := n2_; have GW358 := n3_; have GE358 := n4_; have NB357_358 := n5_; have NB358_357 := n6_; clear n0_ n1_ n2_ n3_ n4_ n5_ n6_; clear hb hbox hg; have hnb7 := NB357_358.out; have hnc7 := NB358_357.out; have hcz8_0 : w6.cell? ⟨gb357, 0, none⟩ = some (.slice A0_0 l0_0.length c0_0) := (blk_cell BK357.out 0).trans rfl; have hfz8_0 := blk_frozen BK357.out 0; have hcz9_0 : w6.cell? ⟨gb358, 0, none⟩ = some (.slice A1_0 l1_0.length c1_0) := (blk_cell BK358.out 0).trans rfl; have hfz9_0 := blk_frozen BK358.out 0) | (go_at_call 54; (with_reducible refine (cmp_Compare_int.calls (l0_0.length : Int) (l1_0.length : Int) t359 _ A3.out).mono ?_); rintro e w' ⟨rfl, ⟨nd, rfl⟩⟩; (try first | exact ⟨rfl, _, World.drewN_drewN _ _ _⟩ | exact ⟨rfl, _, Eq.trans (World.drewN_drewN _ _ _) (congrArg (World.drewN _) (Nat.add_assoc _ _ _))⟩))); try go_wp2_with (first | ((with_reducible refine gate_dst (N := 2) rfl ?_); refine box_event ?hg (N := 2) ?hd (cs := #[.slice A0_0 l0_0.length c0_0]) (t := 25) ?hr ?_; (case hd => rfl); (case hg => rfl); (case hr => first | (go_simp; done) | (go_simp; rfl)); intro gb357 hg w5 hbox hb; have n0_ := Aside0.mk (below_step (by repeat (first | (with_reducible first | exact HB.out | apply below_alloc | apply pw_below_drewN | apply below_drew1) | exact HB.out)) hb); have n1_ := Aside0.mk (hbox); have n2_ := Aside0.mk ((by rw [hg]; exact (below_size (by repeat (first | (with_reducible first | exact HB.out | apply below_alloc | apply pw_below_drewN | apply below_drew1) | exact HB.out))) : w.heap.size ≤ gb357)); have n3_ := Aside0.mk ((by rw [hg]; exact (below_size (by repeat (first | (with_reducible first | exact HB.out | apply below_alloc | apply pw_below_drewN | apply below_drew1) | exact HB.out))) : w.heap.size ≤ gb357)); clear HB; have HB := n0_; have BK357 := n1_; have GW357 := n2_; have GE357 := n3_; clear n0_ n1_ n2_ n3_; clear hb hbox hg) | ((with_reducible refine gate_dst (N := 3) rfl ?_); refine box_event ?hg (N := 3) ?hd (cs := #[.slice A1_0 l1_0.length c1_0]) (t := 25) ?hr ?_; (case hd => rfl); (case hg => rfl); (case hr => first | (go_simp; done) | (go_simp; rfl)); intro gb358 hg w6 hbox hb; have n0_ := Aside0.mk (blk_below (g := gb357) (o := .cells #[.slice A0_0 l0_0.length c0_0] 25 (0, 0)) (by (with_reducible repeat (first | refine blk_drewN ?_ _ | refine blk_drew ?_ | refine blk_alloc ?_ _)); exact BK357.out) hb); have n1_ := Aside0.mk (below_step (by repeat (first | (with_reducible first | exact HB.out | apply below_alloc | apply pw_below_drewN | apply below_drew1 | refine below_set ?_ GE357.out) | exact HB.out)) hb); have n2_ := Aside0.mk (hbox); have n3_ := Aside0.mk ((by rw [hg]; exact (below_size (by repeat (first | (with_reducible first | exact HB.out | apply below_alloc | apply pw_below_drewN | apply below_drew1 | refine below_set ?_ GE357.out) | exact HB.out))) : w.heap.size ≤ gb358)); have n4_ := Aside0.mk ((by rw [hg]; exact (below_size (by repeat (first | (with_reducible first | exact HB.out | apply below_alloc | apply pw_below_drewN | apply below_drew1 | refine below_set ?_ GE357.out) | exact HB.out))) : w.heap.size ≤ gb358)); have n5_ := Aside0.mk ((by rw [hg]; exact Nat.ne_of_lt (blk_lt (g := gb357) (o := .cells #[.slice A0_0 l0_0.length c0_0] 25 (0, 0)) (by (with_reducible repeat (first | refine blk_drewN ?_ _ | refine blk_drew ?_ | refine blk_alloc ?_ _)); exact BK357.out)) : gb357 ≠ gb358)); have n6_ := Aside0.mk ((by rw [hg]; exact Nat.ne_of_gt (blk_lt (g := gb357) (o := .cells #[.slice A0_0 l0_0.length c0_0] 25 (0, 0)) (by (with_reducible repeat (first | refine blk_drewN ?_ _ | refine blk_drew ?_ | refine blk_alloc ?_ _)); exact BK357.out)) : gb358 ≠ gb357)); clear BK357; clear HB; have BK357 := n0_; have HB := n1_; have BK358 := n2_; have GW358 := n3_; have GE358 := n4_; have NB357_358 := n5_; have NB358_357 := n6_; clear n0_ n1_ n2_ n3_ n4_ n5_ n6_; clear hb hbox hg; have hnb7 := NB357_358.out; have hnc7 := NB358_357.out; have hcz8_0 : w6.cell? ⟨gb357, 0, none⟩ = some (.slice A0_0 l0_0.length c0_0) := (blk_cell BK357.out 0).trans rfl; have hfz8_0 := blk_frozen BK357.out 0; have hcz9_0 : w6.cell? ⟨gb358, 0, none⟩ = some (.slice A1_0 l1_0.length c1_0) := (blk_cell BK358.out 0).trans rfl; have hfz9_0 := blk_frozen BK358.out 0) | (go_at_call 54; (with_reducible refine (cmp_Compare_int.calls (l0_0.length : Int) (l1_0.length : Int) t359 _ A3.out).mono ?_); rintro e w' ⟨rfl, ⟨nd, rfl⟩⟩; (try first | exact ⟨rfl, _, World.drewN_drewN _ _ _⟩ | exact ⟨rfl, _, Eq.trans (World.drewN_drewN _ _ _) (congrArg (World.drewN _) (Nat.add_assoc _ _ _))⟩))))
    (try simp only [Act.put, List.setIfInBounds_toArray, List.set_cons_zero, List.set_cons_succ])
    go_loopg [6] k (fun kq v6 w' => ∃ (x6_1 : Int), v6 = .int .i64 x6_1 ∧ Aside0 (nat_Cmp.l0 kq x6_1 l0_0 l1_0 = some r) ∧ Aside0 (kq ≤ k) ∧ Aside0 (w'.heap[gb357]? = some (.cells #[(.slice A0_0 l0_0.length c0_0)] 25 (0, 0))) ∧ Aside0 (w'.heap[gb358]? = some (.cells #[(.slice A1_0 l1_0.length c1_0)] 25 (0, 0))) ∧ Aside0 (Below w.heap.size w w'))
    case atStart => exact ⟨(wrap64 ((l0_0.length : Int) - 1)), (by first | rfl | (simp; done) | (simp [*]; done)), H', ⟨Nat.le_refl _⟩, ⟨by (with_reducible repeat (first | refine blk_drewN ?_ _ | refine blk_drew ?_ | refine blk_alloc ?_ _)); exact BK357.out⟩, ⟨by (with_reducible repeat (first | refine blk_drewN ?_ _ | refine blk_drew ?_ | refine blk_alloc ?_ _)); exact BK358.out⟩, ⟨by repeat (first | (with_reducible first | exact HB.out | apply below_alloc | apply pw_below_drewN | apply below_drew1 | refine below_set ?_ GE357.out | refine below_set ?_ GE358.out) | exact HB.out)⟩⟩
    case round =>
      clear H'
      try clear c1
      try clear p2
      try clear c3
      try clear c4
      try clear c4b0
      try clear c4b1
      try clear p6
      try clear c7
      try clear hcz8_0
      try clear hcz9_0
      try clear hfz8_0
      try clear hfz9_0
      obtain ⟨x6_1, rfl, HA, HK1, BK357, BK358, HB⟩ := hrel
      cases gk with
      | zero => exact absurd HA.out (by simp [nat_Cmp.l0])
      | succ k1 =>
        have H := HA.out
        clear HA
        simp only [nat_Cmp.l0] at H
        by_cases c10 : x6_1 ≥ 0
        · rw [if_pos c10] at H
          have c10b0 : decide (0 ≤ x6_1) = true := decide_eq_true c10
          clear c10
          by_cases c11 : 0 ≤ x6_1
          · rw [if_pos c11] at H
            have c11b0 : decide (0 ≤ x6_1) = true := decide_eq_true c11
            clear c11
            by_cases c12 : x6_1 < (l0_0.length : Int)
            · rw [if_pos c12] at H
              have c12b0 : decide (x6_1 < (l0_0.length : Int)) = true := decide_eq_true c12
              clear c12
              by_cases c13 : x6_1 < (l1_0.length : Int)
              · rw [if_pos c13] at H
                have c13b0 : decide (x6_1 < (l1_0.length : Int)) = true := decide_eq_true c13
                clear c13
                replace H := Option.bind_eq_some_iff.mp H
                obtain ⟨t362, A140, H⟩ := H
                replace H : (if t362 = 0 then (nat_Cmp.l0 k1 (wrap64 (x6_1 - 1)) l0_0 l1_0) else (some t362)) = some r := H
                have A14 := Aside0.mk A140
                clear A140
                by_cases c15 : t362 = 0
                · rw [if_pos c15] at H
                  have c15b0 : (t362 == 0) = true := beq_iff_eq.mpr c15
                  have c15b1 : (t362 != 0) = false := bne_eq_false_iff_eq.mpr c15
                  clear c15
                  have H' := Aside0.mk H
                  clear H
                  have hnb16 := NB357_358.out
                  have hnc16 := NB358_357.out
                  have hcz17_0 : wr.cell? ⟨gb357, 0, none⟩ = some (.slice A0_0 l0_0.length c0_0) := (blk_cell BK357.out 0).trans rfl
                  have hfz17_0 := blk_frozen BK357.out 0
                  have p360 : 0 ≤ (x6_1 : Int) := of_decide_eq_true (by first | (with_reducible assumption) | assumption)
                  have q360 : x6_1 < (l0_0.length : Int) := of_decide_eq_true (by first | (with_reducible assumption) | assumption)
                  obtain ⟨ad360, e360, hx360_0⟩ := Kd.at_int HR0_0.out x6_1 p360 q360
                  cases e360
                  replace hx360_0 := (HB.out.cell (World.block_lt_of_cell? w _ hx360_0)).trans hx360_0
                  replace p360 := eq_true p360
                  replace q360 := eq_true q360
                  have hcz18_0 : wr.cell? ⟨gb358, 0, none⟩ = some (.slice A1_0 l1_0.length c1_0) := (blk_cell BK358.out 0).trans rfl
                  have hfz18_0 := blk_frozen BK358.out 0
                  have p361 : 0 ≤ (x6_1 : Int) := of_decide_eq_true (by first | (with_reducible assumption) | assumption)
                  have q361 : x6_1 < (l1_0.length : Int) := of_decide_eq_true (by first | (with_reducible assumption) | assumption)
                  obtain ⟨ad361, e361, hx361_0⟩ := Kd.at_int HR1_0.out x6_1 p361 q361
                  cases e361
                  replace hx361_0 := (HB.out.cell (World.block_lt_of_cell? w _ hx361_0)).trans hx361_0
                  replace p361 := eq_true p361
                  replace q361 := eq_true q361
                  go_wp2_with (first | (go_at_call 55; (with_reducible refine (cmp_Compare_uint32.calls (rd l0_0 x6_1) (rd l1_0 x6_1) t362 _ A14.out).mono ?_); rintro e w' ⟨rfl, ⟨nd, rfl⟩⟩; (try first | exact ⟨rfl, _, World.drewN_drewN _ _ _⟩ | exact ⟨rfl, _, Eq.trans (World.drewN_drewN _ _ _) (congrArg (World.drewN _) (Nat.add_assoc _ _ _))⟩)))
                  repeat (go_quiet (first | (go_at_call 55; (with_reducible refine (cmp_Compare_uint32.calls (rd l0_0 x6_1) (rd l1_0 x6_1) t362 _ A14.out).mono ?_); rintro e w' ⟨rfl, ⟨nd, rfl⟩⟩; (try first | exact ⟨rfl, _, World.drewN_drewN _ _ _⟩ | exact ⟨rfl, _, Eq.trans (World.drewN_drewN _ _ _) (congrArg (World.drewN _) (Nat.add_assoc _ _ _))⟩))); try go_wp2_with (first | (go_at_call 55; (with_reducible refine (cmp_Compare_uint32.calls (rd l0_0 x6_1) (rd l1_0 x6_1) t362 _ A14.out).mono ?_); rintro e w' ⟨rfl, ⟨nd, rfl⟩⟩; (try first | exact ⟨rfl, _, World.drewN_drewN _ _ _⟩ | exact ⟨rfl, _, Eq.trans (World.drewN_drewN _ _ _) (congrArg (World.drewN _) (Nat.add_assoc _ _ _))⟩))))
                  go_roundg k1
                  case measure => have := HK1.out; omega
                  case rel => exact ⟨(wrap64 (x6_1 - 1)), (by first | rfl | (simp; done) | (simp [*]; done)), H', ⟨by have := HK1.out; omega⟩, ⟨by (with_reducible repeat (first | refine blk_drewN ?_ _ | refine blk_drew ?_ | refine blk_alloc ?_ _)); exact BK357.out⟩, ⟨by (with_reducible repeat (first | refine blk_drewN ?_ _ | refine blk_drew ?_ | refine blk_alloc ?_ _)); exact BK358.out⟩, ⟨by repeat (first | (with_reducible first | exact HB.out | apply below_alloc | apply pw_below_drewN | apply below_drew1 | refine below_set ?_ GE357.out | refine below_set ?_ GE358.out) | exact HB.out)⟩⟩
                · rw [if_neg c15] at H
                  have c15b0 : (t362 == 0) = false := beq_eq_false_iff_ne.mpr c15
                  have c15b1 : (t362 != 0) = true := bne_iff_ne.mpr c15
                  obtain rfl := Option.some.inj H
                  have hnb19 := NB357_358.out
                  have hnc19 := NB358_357.out
                  have hcz20_0 : wr.cell? ⟨gb357, 0, none⟩ = some (.slice A0_0 l0_0.length c0_0) := (blk_cell BK357.out 0).trans rfl
                  have hfz20_0 := blk_frozen BK357.out 0
                  have p360 : 0 ≤ (x6_1 : Int) := of_decide_eq_true (by first | (with_reducible assumption) | assumption)
                  have q360 : x6_1 < (l0_0.length : Int) := of_decide_eq_true (by first | (with_reducible assumption) | assumption)
                  obtain ⟨ad360, e360, hx360_0⟩ := Kd.at_int HR0_0.out x6_1 p360 q360
                  cases e360
                  replace hx360_0 := (HB.out.cell (World.block_lt_of_cell? w _ hx360_0)).trans hx360_0
                  replace p360 := eq_true p360
                  replace q360 := eq_true q360
                  have hcz21_0 : wr.cell? ⟨gb358, 0, none⟩ = some (.slice A1_0 l1_0.length c1_0) := (blk_cell BK358.out 0).trans rfl
                  have hfz21_0 := blk_frozen BK358.out 0
                  have p361 : 0 ≤ (x6_1 : Int) := of_decide_eq_true (by first | (with_reducible assumption) | assumption)
                  have q361 : x6_1 < (l1_0.length : Int) := of_decide_eq_true (by first | (with_reducible assumption) | assumption)
                  obtain ⟨ad361, e361, hx361_0⟩ := Kd.at_int HR1_0.out x6_1 p361 q361
                  cases e361
                  replace hx361_0 := (HB.out.cell (World.block_lt_of_cell? w _ hx361_0)).trans hx361_0
                  replace p361 := eq_true p361
                  replace q361 := eq_true q361
                  go_wp2_with (first | (go_at_call 55; (with_reducible refine (cmp_Compare_uint32.calls (rd l0_0 x6_1) (rd l1_0 x6_1) t362 _ A14.out).mono ?_); rintro e w' ⟨rfl, ⟨nd, rfl⟩⟩; (try first | exact ⟨rfl, _, World.drewN_drewN _ _ _⟩ | exact ⟨rfl, _, Eq.trans (World.drewN_drewN _ _ _) (congrArg (World.drewN _) (Nat.add_assoc _ _ _))⟩)))
                  repeat (go_quiet (first | (go_at_call 55; (with_reducible refine (cmp_Compare_uint32.calls (rd l0_0 x6_1) (rd l1_0 x6_1) t362 _ A14.out).mono ?_); rintro e w' ⟨rfl, ⟨nd, rfl⟩⟩; (try first | exact ⟨rfl, _, World.drewN_drewN _ _ _⟩ | exact ⟨rfl, _, Eq.trans (World.drewN_drewN _ _ _) (congrArg (World.drewN _) (Nat.add_assoc _ _ _))⟩))); try go_wp2_with (first | (go_at_call 55; (with_reducible refine (cmp_Compare_uint32.calls (rd l0_0 x6_1) (rd l1_0 x6_1) t362 _ A14.out).mono ?_); rintro e w' ⟨rfl, ⟨nd, rfl⟩⟩; (try first | exact ⟨rfl, _, World.drewN_drewN _ _ _⟩ | exact ⟨rfl, _, Eq.trans (World.drewN_drewN _ _ _) (congrArg (World.drewN _) (Nat.add_assoc _ _ _))⟩))))
                  go_ret
                  exact ⟨by first | rfl | (simp [errW_none, errW_some] <;> rfl) | (simp [*, errW_none, errW_some] <;> rfl), by repeat (first | (with_reducible first | exact HB.out | apply below_alloc | apply pw_below_drewN | apply below_drew1 | refine below_set ?_ GE357.out | refine below_set ?_ GE358.out) | exact HB.out)⟩
              · rw [if_neg c13] at H
                exact absurd H (by simp)
            · rw [if_neg c12] at H
              exact absurd H (by simp)
          · rw [if_neg c11] at H
            exact absurd H (by simp)
        · rw [if_neg c10] at H
          have c10b0 : decide (0 ≤ x6_1) = false := decide_eq_false c10
          clear c10
          obtain rfl := Option.some.inj H
          go_wp2
          repeat (go_quiet (fail); try go_wp2)
          go_ret
          exact ⟨by first | rfl | (simp [errW_none, errW_some] <;> rfl) | (simp [*, errW_none, errW_some] <;> rfl), by repeat (first | (with_reducible first | exact HB.out | apply below_alloc | apply pw_below_drewN | apply below_drew1 | refine below_set ?_ GE357.out | refine below_set ?_ GE358.out) | exact HB.out)⟩
  · rw [if_neg c4] at H
    have c4b0 : (t359 == 0) = false := beq_eq_false_iff_ne.mpr c4
    have c4b1 : (t359 != 0) = true := bne_iff_ne.mpr c4
    obtain rfl := Option.some.inj H
    go_enter Try.func37, Try.ntmps37
    go_wp2_with (first | ((with_reducible refine gate_dst (N := 2) rfl ?_); refine box_event ?hg (N := 2) ?hd (cs := #[.slice A0_0 l0_0.length c0_0]) (t := 25) ?hr ?_; (case hd => rfl); (case hg => rfl); (case hr => first | (go_simp; done) | (go_simp; rfl)); intro gb357 hg w22 hbox hb; have n0_ := Aside0.mk (below_step (by repeat (first | (with_reducible first | exact HB.out | apply below_alloc | apply pw_below_drewN | apply below_drew1) | exact HB.out)) hb); have n1_ := Aside0.mk (hbox); have n2_ := Aside0.mk ((by rw [hg]; exact (below_size (by repeat (first | (with_reducible first | exact HB.out | apply below_alloc | apply pw_below_drewN | apply below_drew1) | exact HB.out))) : w.heap.size ≤ gb357)); have n3_ := Aside0.mk ((by rw [hg]; exact (below_size (by repeat (first | (with_reducible first | exact HB.out | apply below_alloc | apply pw_below_drewN | apply below_drew1) | exact HB.out))) : w.heap.size ≤ gb357)); clear HB; have HB := n0_; have BK357 := n1_; have GW357 := n2_; have GE357 := n3_; clear n0_ n1_ n2_ n3_; clear hb hbox hg) | ((with_reducible refine gate_dst (N := 3) rfl ?_); refine box_event ?hg (N := 3) ?hd (cs := #[.slice A1_0 l1_0.length c1_0]) (t := 25) ?hr ?_; (case hd => rfl); (case hg => rfl); (case hr => first | (go_simp; done) | (go_simp; rfl)); intro gb358 hg w23 hbox hb; have n0_ := Aside0.mk (blk_below (g := gb357) (o := .cells #[.slice A0_0 l0_0.length c0_0] 25 (0, 0)) (by (with_reducible repeat (first | refine blk_drewN ?_ _ | refine blk_drew ?_ | refine blk_alloc ?_ _)); exact BK357.out) hb); have n1_ := Aside0.mk (below_step (by repeat (first | (with_reducible first | exact HB.out | apply below_alloc | apply pw_below_drewN | apply below_drew1 | refine below_set ?_ GE357.out) | exact HB.out)) hb); have n2_ := Aside0.mk (hbox); have n3_ := Aside0.mk ((by rw [hg]; exact (below_size (by repeat (first | (with_reducible first | exact HB.out | apply below_alloc | apply pw_below_drewN | apply below_drew1 | refine below_set ?_ GE357.out) | exact HB.out))) : w.heap.size ≤ gb358)); have n4_ := Aside0.mk ((by rw [hg]; exact (below_size (by repeat (first | (with_reducible first | exact HB.out | apply below_alloc | apply pw_below_drewN | apply below_drew1 | refine below_set ?_ GE357.out) | exact HB.out))) : w.heap.size ≤ gb358)); have n5_ := Aside0.mk ((by rw [hg]; exact Nat.ne_of_lt (blk_lt (g := gb357) (o := .cells #[.slice A0_0 l0_0.length c0_0] 25 (0, 0)) (by (with_reducible repeat (first | refine blk_drewN ?_ _ | refine blk_drew ?_ | refine blk_alloc ?_ _)); exact BK357.out)) : gb357 ≠ gb358)); have n6_ := Aside0.mk ((by rw [hg]; exact Nat.ne_of_gt (blk_lt (g := gb357) (o := .cells #[.slice A0_0 l0_0.length c0_0] 25 (0, 0)) (by (with_reducible repeat (first | refine blk_drewN ?_ _ | refine blk_drew ?_ | refine blk_alloc ?_ _)); exact BK357.out)) : gb358 ≠ gb357)); clear BK357; clear HB; have BK357 := n0_; have HB := n1_; have BK358 := n2_; have GW358 := n3_; have GE358 := n4_; have NB357_358 := n5_; have NB358_357 := n6_; clear n0_ n1_ n2_ n3_ n4_ n5_ n6_; clear hb hbox hg; have hnb24 := NB357_358.out; have hnc24 := NB358_357.out; have hcz25_0 : w23.cell? ⟨gb357, 0, none⟩ = some (.slice A0_0 l0_0.length c0_0) := (blk_cell BK357.out 0).trans rfl; have hfz25_0 := blk_frozen BK357.out 0; have hcz26_0 : w23.cell? ⟨gb358, 0, none⟩ = some (.slice A1_0 l1_0.length c1_0) := (blk_cell BK358.out 0).trans rfl; have hfz26_0 := blk_frozen BK358.out 0) | (go_at_call 54; (with_reducible refine (cmp_Compare_int.calls (l0_0.length : Int) (l1_0.length : Int) t359 _ A3.out).mono ?_); rintro e w' ⟨rfl, ⟨nd, rfl⟩⟩; (try first | exact ⟨rfl, _, World.drewN_drewN _ _ _⟩ | exact ⟨rfl, _, Eq.trans (World.drewN_drewN _ _ _) (congrArg (World.drewN _) (Nat.add_assoc _ _ _))⟩)))
    repeat (go_quiet (first | ((with_reducible refine gate_dst (N := 2) rfl ?_); refine box_event ?hg (N := 2) ?hd (cs := #[.slice A0_0 l0_0.length c0_0]) (t := 25) ?hr ?_; (case hd => rfl); (case hg => rfl); (case hr => first | (go_simp; done) | (go_simp; rfl)); intro gb357 hg w22 hbox hb; have n0_ := Aside0.mk (below_step (by repeat (first | (with_reducible first | exact HB.out | apply below_alloc | apply pw_below_drewN | apply below_drew1) | exact HB.out)) hb); have n1_ := Aside0.mk (hbox); have n2_ := Aside0.mk ((by rw [hg]; exact (below_size (by repeat (first | (with_reducible first | exact HB.out | apply below_alloc | apply pw_below_drewN | apply below_drew1) | exact HB.out))) : w.heap.size ≤ gb357)); have n3_ := Aside0.mk ((by rw [hg]; exact (below_size (by repeat (first | (with_reducible first | exact HB.out | apply below_alloc | apply pw_below_drewN | apply below_drew1) | exact HB.out))) : w.heap.size ≤ gb357)); clear HB; have HB := n0_; have BK357 := n1_; have GW357 := n2_; have GE357 := n3_; clear n0_ n1_ n2_ n3_; clear hb hbox hg) | ((with_reducible refine gate_dst (N := 3) rfl ?_); refine box_event ?hg (N := 3) ?hd (cs := #[.slice A1_0 l1_0.length c1_0]) (t := 25) ?hr ?_; (case hd => rfl); (case hg => rfl); (case hr => first | (go_simp; done) | (go_simp; rfl)); intro gb358 hg w23 hbox hb; have n0_ := Aside0.mk (blk_below (g := gb357) (o := .cells #[.slice A0_0 l0_0.length c0_0] 25 (0, 0)) (by (with_reducible repeat (first | refine blk_drewN ?_ _ | refine blk_drew ?_ | refine blk_alloc ?_ _)); exact BK357.out) hb); have n1_ := Aside0.mk (below_step (by repeat (first | (with_reducible first | exact HB.out | apply below_alloc | apply pw_below_drewN | apply below_drew1 | refine below_set ?_ GE357.out) | exact HB.out)) hb); have n2_ := Aside0.mk (hbox); have n3_ := Aside0.mk ((by rw [hg]; exact (below_size (by repeat (first | (with_reducible first | exact HB.out | apply below_alloc | apply pw_below_drewN | apply below_drew1 | refine below_set ?_ GE357.out) | exact HB.out))) : w.heap.size ≤ gb358)); have n4_ := Aside0.mk ((by rw [hg]; exact (below_size (by repeat (first | (with_reducible first | exact HB.out | apply below_alloc | apply pw_below_drewN | apply below_drew1 | refine below_set ?_ GE357.out) | exact HB.out))) : w.heap.size ≤ gb358)); have n5_ := Aside0.mk ((by rw [hg]; exact Nat.ne_of_lt (blk_lt (g := gb357) (o := .cells #[.slice A0_0 l0_0.length c0_0] 25 (0, 0)) (by (with_reducible repeat (first | refine blk_drewN ?_ _ | refine blk_drew ?_ | refine blk_alloc ?_ _)); exact BK357.out)) : gb357 ≠ gb358)); have n6_ := Aside0.mk ((by rw [hg]; exact Nat.ne_of_gt (blk_lt (g := gb357) (o := .cells #[.slice A0_0 l0_0.length c0_0] 25 (0, 0)) (by (with_reducible repeat (first | refine blk_drewN ?_ _ | refine blk_drew ?_ | refine blk_alloc ?_ _)); exact BK357.out)) : gb358 ≠ gb357)); clear BK357; clear HB; have BK357 := n0_; have HB := n1_; have BK358 := n2_; have GW358 := n3_; have GE358 := n4_; have NB357_358 := n5_; have NB358_357 := n6_; clear n0_ n1_ n2_ n3_ n4_ n5_ n6_; clear hb hbox hg; have hnb24 := NB357_358.out; have hnc24 := NB358_357.out; have hcz25_0 : w23.cell? ⟨gb357, 0, none⟩ = some (.slice A0_0 l0_0.length c0_0) := (blk_cell BK357.out 0).trans rfl; have hfz25_0 := blk_frozen BK357.out 0; have hcz26_0 : w23.cell? ⟨gb358, 0, none⟩ = some (.slice A1_0 l1_0.length c1_0) := (blk_cell BK358.out 0).trans rfl; have hfz26_0 := blk_frozen BK358.out 0) | (go_at_call 54; (with_reducible refine (cmp_Compare_int.calls (l0_0.length : Int) (l1_0.length : Int) t359 _ A3.out).mono ?_); rintro e w' ⟨rfl, ⟨nd, rfl⟩⟩; (try first | exact ⟨rfl, _, World.drewN_drewN _ _ _⟩ | exact ⟨rfl, _, Eq.trans (World.drewN_drewN _ _ _) (congrArg (World.drewN _) (Nat.add_assoc _ _ _))⟩))); try go_wp2_with (first | ((with_reducible refine gate_dst (N := 2) rfl ?_); refine box_event ?hg (N := 2) ?hd (cs := #[.slice A0_0 l0_0.length c0_0]) (t := 25) ?hr ?_; (case hd => rfl); (case hg => rfl); (case hr => first | (go_simp; done) | (go_simp; rfl)); intro gb357 hg w22 hbox hb; have n0_ := Aside0.mk (below_step (by repeat (first | (with_reducible first | exact HB.out | apply below_alloc | apply pw_below_drewN | apply below_drew1) | exact HB.out)) hb); have n1_ := Aside0.mk (hbox); have n2_ := Aside0.mk ((by rw [hg]; exact (below_size (by repeat (first | (with_reducible first | exact HB.out | apply below_alloc | apply pw_below_drewN | apply below_drew1) | exact HB.out))) : w.heap.size ≤ gb357)); have n3_ := Aside0.mk ((by rw [hg]; exact (below_size (by repeat (first | (with_reducible first | exact HB.out | apply below_alloc | apply pw_below_drewN | apply below_drew1) | exact HB.out))) : w.heap.size ≤ gb357)); clear HB; have HB := n0_; have BK357 := n1_; have GW357 := n2_; have GE357 := n3_; clear n0_ n1_ n2_ n3_; clear hb hbox hg) | ((with_reducible refine gate_dst (N := 3) rfl ?_); refine box_event ?hg (N := 3) ?hd (cs := #[.slice A1_0 l1_0.length c1_0]) (t := 25) ?hr ?_; (case hd => rfl); (case hg => rfl); (case hr => first | (go_simp; done) | (go_simp; rfl)); intro gb358 hg w23 hbox hb; have n0_ := Aside0.mk (blk_below (g := gb357) (o := .cells #[.slice A0_0 l0_0.length c0_0] 25 (0, 0)) (by (with_reducible repeat (first | refine blk_drewN ?_ _ | refine blk_drew ?_ | refine blk_alloc ?_ _)); exact BK357.out) hb); have n1_ := Aside0.mk (below_step (by repeat (first | (with_reducible first | exact HB.out | apply below_alloc | apply pw_below_drewN | apply below_drew1 | refine below_set ?_ GE357.out) | exact HB.out)) hb); have n2_ := Aside0.mk (hbox); have n3_ := Aside0.mk ((by rw [hg]; exact (below_size (by repeat (first | (with_reducible first | exact HB.out | apply below_alloc | apply pw_below_drewN | apply below_drew1 | refine below_set ?_ GE357.out) | exact HB.out))) : w.heap.size ≤ gb358)); have n4_ := Aside0.mk ((by rw [hg]; exact (below_size (by repeat (first | (with_reducible first | exact HB.out | apply below_alloc | apply pw_below_drewN | apply below_drew1 | refine below_set ?_ GE357.out) | exact HB.out))) : w.heap.size ≤ gb358)); have n5_ := Aside0.mk ((by rw [hg]; exact Nat.ne_of_lt (blk_lt (g := gb357) (o := .cells #[.slice A0_0 l0_0.length c0_0] 25 (0, 0)) (by (with_reducible repeat (first | refine blk_drewN ?_ _ | refine blk_drew ?_ | refine blk_alloc ?_ _)); exact BK357.out)) : gb357 ≠ gb358)); have n6_ := Aside0.mk ((by rw [hg]; exact Nat.ne_of_gt (blk_lt (g := gb357) (o := .cells #[.slice A0_0 l0_0.length c0_0] 25 (0, 0)) (by (with_reducible repeat (first | refine blk_drewN ?_ _ | refine blk_drew ?_ | refine blk_alloc ?_ _)); exact BK357.out)) : gb358 ≠ gb357)); clear BK357; clear HB; have BK357 := n0_; have HB := n1_; have BK358 := n2_; have GW358 := n3_; have GE358 := n4_; have NB357_358 := n5_; have NB358_357 := n6_; clear n0_ n1_ n2_ n3_ n4_ n5_ n6_; clear hb hbox hg; have hnb24 := NB357_358.out; have hnc24 := NB358_357.out; have hcz25_0 : w23.cell? ⟨gb357, 0, none⟩ = some (.slice A0_0 l0_0.length c0_0) := (blk_cell BK357.out 0).trans rfl; have hfz25_0 := blk_frozen BK357.out 0; have hcz26_0 : w23.cell? ⟨gb358, 0, none⟩ = some (.slice A1_0 l1_0.length c1_0) := (blk_cell BK358.out 0).trans rfl; have hfz26_0 := blk_frozen BK358.out 0) | (go_at_call 54; (with_reducible refine (cmp_Compare_int.calls (l0_0.length : Int) (l1_0.length : Int) t359 _ A3.out).mono ?_); rintro e w' ⟨rfl, ⟨nd, rfl⟩⟩; (try first | exact ⟨rfl, _, World.drewN_drewN _ _ _⟩ | exact ⟨rfl, _, Eq.trans (World.drewN_drewN _ _ _) (congrArg (World.drewN _) (Nat.add_assoc _ _ _))⟩))))
    go_ret
    exact ⟨by first | rfl | (simp [errW_none, errW_some] <;> rfl) | (simp [*, errW_none, errW_some] <;> rfl), by repeat (first | (with_reducible first | exact HB.out | apply below_alloc | apply pw_below_drewN | apply below_drew1 | refine below_set ?_ GE357.out | refine below_set ?_ GE358.out) | exact HB.out)⟩

end Go.Proofs.Ytcepdndhkidehaa.PA
end
section
namespace Go.Proofs.Ytcepdndhkidehaa.PA
open Go.RowKit Go.Proofs.YtcepdndhkidehaaW.PrintWords Go.Proofs.YtcepdndhkidehaaW.PrintLast Go.Proofs.YtcepdndhkidehaaW.PrintMore
attribute [local go_sem] max2_int min2_int max_two min_two max_three min_three max_four min_four   -- for this text's walks alone
set_option linter.unusedVariables false
set_option linter.unusedSimpArgs false

/-! ### nat_Nat_at: function 53 -/
def nat_Nat_at.f (l0_0 : List Int) (a1 : Int) : Option (Int) := if a1 < (l0_0.length : Int) then (if 0 ≤ a1 then (some (rd l0_0 a1)) else (none)) else (some 0)
set_option maxHeartbeats 8000000 in
set_option maxRecDepth 100000 in
theorem nat_Nat_at.calls (A0_0 : Option Addr) (c0_0 : Nat) (l0_0 : List Int) (a1 : Int) (r : Int) (w : World) (hr0_0 : Kd.C (Kd.int .u32) w A0_0 l0_0.length l0_0) (hc0_0 : l0_0.length ≤ c0_0) (h : nat_Nat_at.f l0_0 a1 = some r) :
    Calls Try.prog 53 #[.agg #[.slice A0_0 l0_0.length c0_0], .int .i64 a1] w fun e w' => e = .returned (.int .u32 r) ∧ Below w.heap.size w w' := by
  have hu25 := Try.underlying25
  have HR0_0 := Aside0.mk hr0_0
  have HC0_0 := Aside0.mk hc0_0
  clear hr0_0 hc0_0
  have HB := Aside0.mk (Below.refl w.heap.size w)
  have H : (if a1 < (l0_0.length : Int) then (if 0 ≤ a1 then (some (rd l0_0 a1)) else (none)) else (some 0)) = some r := h
  clear h
  by_cases c3 : a1 < (l0_0.length : Int)
  · rw [if_pos c3] at H
    have c3b0 : decide (a1 < (l0_0.length : Int)) = true := decide_eq_true c3
    clear c3
    by_cases c4 : 0 ≤ a1
    · rw [if_pos c4] at H
      have c4b0 : decide (0 ≤ a1) = true := decide_eq_true c4
      clear c4
      obtain rfl := Option.some.inj H
      go_enter Try.func53, Try.ntmps53
      go_wp2_with (first | ((with_reducible refine gate_dst (N := 2) rfl ?_); refine box_event ?hg (N := 2) ?hd (cs := #[.slice A0_0 l0_0.length c0_0]) (t := 25) ?hr ?_; (case hd => rfl); (case hg => rfl); (case hr => first | (go_simp; done) | (go_simp; rfl)); intro gb363 hg w5 hbox hb; have n0_ := Aside0.mk (below_step (by repeat (first | (with_reducible first | exact HB.out | apply below_alloc | apply pw_below_drewN | apply below_drew1) | exact HB.out)) hb); have n1_ := Aside0.mk (hbox); have n2_ := Aside0.mk ((by rw [hg]; exact (below_size (by repeat (first | (with_reducible first | exact HB.out | apply below_alloc | apply pw_below_drewN | apply below_drew1) | exact HB.out))) : w.heap.size ≤ gb363)); have n3_ := Aside0.mk ((by rw [hg]; exact (below_size (by repeat (first | (with_reducible first | exact HB.out | apply below_alloc | apply pw_below_drewN | apply below_drew1) | exact HB.out))) : w.heap.size ≤ gb363)); clear HB; have HB := n0_; have BK363 := n1_; have GW363 := n2_; have GE363 := n3_; clear n0_ n1_ n2_ n3_; clear hb hbox hg; have hcz6_0 : w5.cell? ⟨gb363, 0, none⟩ = some (.slice A0_0 l0_0.length c0_0) := (blk_cell BK363.out 0).trans rfl; have hfz6_0 := blk_frozen BK363.out 0; have p364 : 0 ≤ (a1 : Int) := of_decide_eq_true (by first | (with_reducible assumption) | assumption); have q364 : a1 < (l0_0.length : Int) := of_decide_eq_true (by first | (with_reducible assumption) | assumption); obtain ⟨ad364, e364, hx364_0⟩ := Kd.at_int HR0_0.out a1 p364 q364; cases e364; replace hx364_0 := (HB.out.cell (World.block_lt_of_cell? w _ hx364_0)).trans hx364_0; replace p364 := eq_true p364; replace q364 := eq_true q364))
      go_ret
      exact ⟨by first | rfl | (simp [errW_none, errW_some] <;> rfl) | (simp [*, errW_none, errW_some] <;> rfl), by repeat (first | (with_reducible first | exact HB.out | apply below_alloc | apply pw_below_drewN | apply below_drew1 | refine below_set ?_ GE363.out) | exact HB.out)⟩
    · rw [if_neg c4] at H
      exact absurd H (by simp)
  · rw [if_neg c3] at H
    have c3b0 : decide (a1 < (l0_0.length : Int)) = false := decide_eq_false c3
    clear c3
    obtain rfl := Option.some.inj H
    go_enter Try.func53, Try.ntmps53
    go_wp2_with (first | ((with_reducible refine gate_dst (N := 2) rfl ?_); refine box_event ?hg (N := 2) ?hd (cs := #[.slice A0_0 l0_0.length c0_0]) (t := 25) ?hr ?_; (case hd => rfl); (case hg => rfl); (case hr => first | (go_simp; done) | (go_simp; rfl)); intro gb363 hg w7 hbox hb; have n0_ := Aside0.mk (below_step (by repeat (first | (with_reducible first | exact HB.out | apply below_alloc | apply pw_below_drewN | apply below_drew1) | exact HB.out)) hb); have n1_ := Aside0.mk (hbox); have n2_ := Aside0.mk ((by rw [hg]; exact (below_size (by repeat (first | (with_reducible first | exact HB.out | apply below_alloc | apply pw_below_drewN | apply below_drew1) | exact HB.out))) : w.heap.size ≤ gb363)); have n3_ := Aside0.mk ((by rw [hg]; exact (below_size (by repeat (first | (with_reducible first | exact HB.out | apply below_alloc | apply pw_below_drewN | apply below_drew1) | exact HB.out))) : w.heap.size ≤ gb363)); clear HB; have HB := n0_; have BK363 := n1_; have GW363 := n2_; have GE363 := n3_; clear n0_ n1_ n2_ n3_; clear hb hbox hg; have hcz8_0 : w7.cell? ⟨gb363, 0, none⟩ = some (.slice A0_0 l0_0.length c0_0) := (blk_cell BK363.out 0).trans rfl; have hfz8_0 := blk_frozen BK363.out 0))
    go_ret
    exact ⟨by first | rfl | (simp [errW_none, errW_some] <;> rfl) | (simp [*, errW_none, errW_some] <;> rfl), by repeat (first | (with_reducible first | exact HB.out | apply below_alloc | apply pw_below_drewN | apply below_drew1 | refine below_set ?_ GE363.out) | exact HB.out)⟩

end Go.Proofs.Ytcepdndhkidehaa.PA
end
section
namespace Go.Proofs.Ytcepdndhkidehaa.PA
open Go.RowKit Go.Proofs.YtcepdndhkidehaaW.PrintWords Go.Proofs.YtcepdndhkidehaaW.PrintLast Go.Proofs.YtcepdndhkidehaaW.PrintMore
attribute [local go_sem] max2_int min2_int max_two min_two max_three min_three max_four min_four   -- for this text's walks alone
set_option linter.unusedVariables false
set_option linter.unusedSimpArgs false

/-! ### bits_Add32: function 56 -/
def bits_Add32.f (a0 : Int) (a1 : Int) (a2 : Int) : Option (Int × Int) := some ((IntKind.u64.wrap ((IntKind.u64.wrap ((IntKind.u64.wrap (a0)) + (IntKind.u64.wrap (a1)))) + (IntKind.u64.wrap (a2)))) % 4294967296, ((IntKind.u64.wrap ((IntKind.u64.wrap ((IntKind.u64.wrap (a0)) + (IntKind.u64.wrap (a1)))) + (IntKind.u64.wrap (a2)))) / 4294967296) % 4294967296)
set_option maxHeartbeats 8000000 in
set_option maxRecDepth 100000 in
theorem bits_Add32.calls (a0 : Int) (a1 : Int) (a2 : Int) (r1 : Int) (r2 : Int) (w : World) (h : bits_Add32.f a0 a1 a2 = some (r1, r2)) :
    Calls Try.prog 56 #[.int .u32 a0, .int .u32 a1, .int .u32 a2] w fun e w' => e = .returned (.tuple #[.int .u32 r1, .int .u32 r2]) ∧ Drawn0 w w' := by
  have H : (some ((IntKind.u64.wrap ((IntKind.u64.wrap ((IntKind.u64.wrap (a0)) + (IntKind.u64.wrap (a1)))) + (IntKind.u64.wrap (a2)))) % 4294967296, ((IntKind.u64.wrap ((IntKind.u64.wrap ((IntKind.u64.wrap (a0)) + (IntKind.u64.wrap (a1)))) + (IntKind.u64.wrap (a2)))) / 4294967296) % 4294967296)) = some (r1, r2) := h
  clear h
  simp only [Option.some.injEq, Prod.mk.injEq] at H
  obtain ⟨rfl, rfl⟩ := H
  go_enter Try.func56, Try.ntmps56
  go_wp2
  go_ret2
  exact ⟨by first | rfl | (simp; done) | (simp [*]; done), by repeat (first | exact Drawn0.refl _ | apply Drawn0.step)⟩

end Go.Proofs.Ytcepdndhkidehaa.PA
end
section
namespace Go.Proofs.Ytcepdndhkidehaa.PA
open Go.RowKit Go.Proofs.YtcepdndhkidehaaW.PrintWords Go.Proofs.YtcepdndhkidehaaW.PrintLast Go.Proofs.YtcepdndhkidehaaW.PrintMore
attribute [local go_sem] max2_int min2_int max_two min_two max_three min_three max_four min_four   -- for this text's walks alone
set_option linter.unusedVariables false
set_option linter.unusedSimpArgs false

/-! ### nat_Add: function 38 -/
def nat_Add.l0 : Nat → List Int → Int → Int → Int → List Int → List Int → Option (List Int)
  | 0, _, _, _, _, _, _ => none
  | k + 1, x6, x7, x20, x21, x381000, x382000 => if x21 < x20 then ((nat_Nat_at.f x381000 x21).bind fun t386 => ((nat_Nat_at.f x382000 x21).bind fun t387 => ((bits_Add32.f t386 t387 x7).bind fun bt388 => (if 0 ≤ x21 then (if x21 < (x6.length : Int) then (nat_Add.l0 k (x6.set (x21 : Int).toNat bt388.1) bt388.2 x20 (wrap64 (x21 + 1)) x381000 x382000) else (none)) else (none))))) else ((nat_Made.f k x6).bind fun t391 => (some t391))
def nat_Add.f (k : Nat) (l0_0 : List Int) (l1_0 : List Int) : Option (List Int) := if 0 ≤ (wrap64 ((mx (l0_0.length : Int) (l1_0.length : Int)) + 1)) then (if (wrap64 ((mx (l0_0.length : Int) (l1_0.length : Int)) + 1) : Int).toNat ≤ 70368744177664 then ((some (List.replicate (wrap64 ((mx (l0_0.length : Int) (l1_0.length : Int)) + 1) : Int).toNat 0 : List Int)).bind fun y383 => (nat_Add.l0 k y383 0 (y383.length : Int) 0 l0_0 l1_0)) else (none)) else (none)
theorem nat_Add.mono_l : ∀ k, (∀ y0 y1 y2 y3 y4 y5, LeO (nat_Add.l0 k y0 y1 y2 y3 y4 y5) (nat_Add.l0 (k + 1) y0 y1 y2 y3 y4 y5))
  | 0 => fun _ _ _ _ _ _ r h => by simp [nat_Add.l0] at h
  | k + 1 => by
    have ih0 := nat_Add.mono_l k
    · intro y0 y1 y2 y3 y4 y5
      unfold nat_Add.l0
      repeat' first
      | (with_reducible exact ih0 _ _ _ _ _ _)
      | (with_reducible exact nat_Made.mono _ _)
      | (with_reducible exact LeO.refl _)
      | (with_reducible exact LeO.none _)
      | (with_reducible refine LeO.ite ?_ ?_)
      | (with_reducible refine LeO.bind ?_ (fun _ => ?_))
      | exact ih0 _ _ _ _ _ _
      | exact nat_Made.mono _ _
      | exact LeO.none _
      | refine LeO.ite ?_ ?_
      | refine LeO.bind ?_ (fun _ => ?_)
theorem nat_Add.mono : ∀ a0 a1 k, LeO (nat_Add.f k a0 a1) (nat_Add.f (k + 1) a0 a1) := by
  intro a0 a1 k
  have ih0 := nat_Add.mono_l k
  unfold nat_Add.f
  repeat' first
      | (with_reducible exact ih0 _ _ _ _ _ _)
      | (with_reducible exact nat_Made.mono _ _)
      | (with_reducible exact LeO.refl _)
      | (with_reducible exact LeO.none _)
      | (with_reducible refine LeO.ite ?_ ?_)
      | (with_reducible refine LeO.bind ?_ (fun _ => ?_))
      | exact ih0 _ _ _ _ _ _
      | exact nat_Made.mono _ _
      | exact LeO.none _
      | refine LeO.ite ?_ ?_
      | refine LeO.bind ?_ (fun _ => ?_)
def nat_Add.T7 : Bool × List (List Nat × List Nat) := (true, [([], []), ([], []), ([], []), ([], []), ([2, 3], [2, 3]), ([], []), ([], []), ([5, 6, 4], [5, 6]), ([], []), ([4, 7, 8, 7], [4, 7, 8]), ([9], [9]), ([10], [10]), ([10], [10]), ([0, 1, 0, 1, 2, 3, 4, 5, 6, 7, 8, 9, 10, 11], [0, 1]), ([13, 11, 9, 0, 1, 2, 3, 4, 5, 6, 7, 8, 9, 10, 11], [11, 13]), ([12, 14, 0, 1, 2, 3, 4, 5, 6, 7, 8, 9, 10, 11, 12, 13, 14], [8, 12])])
def nat_Add.B7 : List Nat := [0, 0, 0, 0, 12, 0, 0, 124, 0, 508, 1020, 2044, 2044, 4095, 12287, 32767]
theorem nat_Add.tab7 : rtab .any (opsOf Try.f38 7) = nat_Add.T7 := by kernel_rfl
theorem nat_Add.bits7 : waitsOk nat_Add.T7.2 nat_Add.B7 = true := by kernel_rfl
set_option maxHeartbeats 8000000 in
set_option maxRecDepth 100000 in
theorem nat_Add.calls (k : Nat) (A0_0 : Option Addr) (c0_0 : Nat) (l0_0 : List Int) (A1_0 : Option Addr) (c1_0 : Nat) (l1_0 : List Int) (r : List Int) (w : World) (hr0_0 : Kd.C (Kd.int .u32) w A0_0 l0_0.length l0_0) (hc0_0 : l0_0.length ≤ c0_0) (hr1_0 : Kd.C (Kd.int .u32) w A1_0 l1_0.length l1_0) (hc1_0 : l1_0.length ≤ c1_0) (h : nat_Add.f k l0_0 l1_0 = some r) :
    Calls Try.prog 38 #[.agg #[.slice A0_0 l0_0.length c0_0], .agg #[.slice A1_0 l1_0.length c1_0]] w fun e w' => ∃ v0_ : Value, e = .returned (.agg #[v0_]) ∧ Kd.R (Kd.int .u32) 23 w' w.heap.size (fun _ => True) v0_ r ∧ Below w.heap.size w w' := by
  have hu25 := Try.underlying25
  have HR0_0 := Aside0.mk hr0_0
  have HC0_0 := Aside0.mk hc0_0
  clear hr0_0 hc0_0
  have HR1_0 := Aside0.mk hr1_0
  have HC1_0 := Aside0.mk hc1_0
  clear hr1_0 hc1_0
  have HB := Aside0.mk (Below.refl w.heap.size w)
  have H : (if 0 ≤ (wrap64 ((mx (l0_0.length : Int) (l1_0.length : Int)) + 1)) then (if (wrap64 ((mx (l0_0.length : Int) (l1_0.length : Int)) + 1) : Int).toNat ≤ 70368744177664 then ((some (List.replicate (wrap64 ((mx (l0_0.length : Int) (l1_0.length : Int)) + 1) : Int).toNat 0 : List Int)).bind fun y383 => (nat_Add.l0 k y383 0 (y383.length : Int) 0 l0_0 l1_0)) else (none)) else (none)) = some r := h
  clear h
  obtain ⟨ji3, hji3⟩ : ∃ j_ : Int, (mx (l0_0.length : Int) (l1_0.length : Int)) = j_ := ⟨_, rfl⟩
  replace H : (if 0 ≤ (wrap64 ((ji3) + 1)) then (if (wrap64 ((ji3) + 1) : Int).toNat ≤ 70368744177664 then ((some (List.replicate (wrap64 ((ji3) + 1) : Int).toNat 0 : List Int)).bind fun y383 => (nat_Add.l0 k y383 0 (y383.length : Int) 0 l0_0 l1_0)) else (none)) else (none)) = some r := by first | (rw [hji3] at H; exact H) | (simp only [hji3] at H ⊢; exact H)
  (try (have hji3l : 0 ≤ ji3 := by (rw [← hji3]; unfold mx; (repeat' split) <;> omega)))
  (try (have hji3m : 0 ≤ ji3 := by omega))
  have hji3_ : (if (l0_0.length : Int) < (l1_0.length : Int) then (l1_0.length : Int) else (l0_0.length : Int)) = ji3 := hji3
  have hji3n : (if l0_0.length < l1_0.length then (l1_0.length : Int) else (l0_0.length : Int)) = ji3 := by rw [← hji3_]; simp only [Int.ofNat_lt]
  obtain ⟨ji4, hji4⟩ : ∃ j_ : Int, (wrap64 ((ji3) + 1)) = j_ := ⟨_, rfl⟩
  replace H : (if 0 ≤ (ji4) then (if (ji4 : Int).toNat ≤ 70368744177664 then ((some (List.replicate (ji4 : Int).toNat 0 : List Int)).bind fun y383 => (nat_Add.l0 k y383 0 (y383.length : Int) 0 l0_0 l1_0)) else (none)) else (none)) = some r := by first | (rw [hji4] at H; exact H) | (simp only [hji4] at H ⊢; exact H)
  have hji4w : (IntKind.i64.wrap ((ji3) + 1)) = ji4 := (i64_w _).trans hji4
  by_cases c5 : 0 ≤ (ji4)
  · rw [if_pos c5] at H
    have c5b0 := eq_true c5
    have c5b1 : decide (0 ≤ (ji4)) = true := decide_eq_true c5
    clear c5
    by_cases c6 : (ji4 : Int).toNat ≤ 70368744177664
    · rw [if_pos c6] at H
      have c6b0 := eq_true c6
      have c6b1 : decide ((ji4 : Int).toNat ≤ 70368744177664) = true := decide_eq_true c6
      clear c6
      obtain ⟨y383, hy383⟩ : ∃ y_ : List Int, y_ = (List.replicate (ji4 : Int).toNat 0) := ⟨_, rfl⟩
      replace H : (nat_Add.l0 k y383 0 (y383.length : Int) 0 l0_0 l1_0) = some r := by first | (rw [hy383]; with_reducible exact H) | (have H2_ := (Option.bind_some _ _).symm.trans H; rw [hy383]; with_reducible exact H2_) | (have H2_ := (Option.bind_some _ _).symm.trans H; with_reducible exact H2_) | with_reducible exact H | (rw [hy383]; exact H) | exact H
      have Ny383 := Aside0.mk hy383
      clear hy383
      have H' := Aside0.mk H
      clear H
      go_enter Try.func38, Try.ntmps38
      go_wp2_with (first | ((with_reducible refine gate_dst (N := 2) rfl ?_); refine box_event ?hg (N := 2) ?hd (cs := #[.slice A0_0 l0_0.length c0_0]) (t := 25) ?hr ?_; (case hd => rfl); (case hg => rfl); (case hr => first | (go_simp; done) | (go_simp; rfl)); intro gb380 hg w7 hbox hb; have n0_ := Aside0.mk (below_step (by repeat (first | (with_reducible first | exact HB.out | apply below_alloc | apply pw_below_drewN | apply below_drew1) | exact HB.out)) hb); have n1_ := Aside0.mk (hbox); have n2_ := Aside0.mk ((by rw [hg]; exact (below_size (by repeat (first | (with_reducible first | exact HB.out | apply below_alloc | apply pw_below_drewN | apply below_drew1) | exact HB.out))) : w.heap.size ≤ gb380)); have n3_ := Aside0.mk ((by rw [hg]; exact (below_size (by repeat (first | (with_reducible first | exact HB.out | apply below_alloc | apply pw_below_drewN | apply below_drew1) | exact HB.out))) : w.heap.size ≤ gb380)); clear HB; have HB := n0_; have BK380 := n1_; have GW380 := n2_; have GE380 := n3_; clear n0_ n1_ n2_ n3_; clear hb hbox hg) | ((with_reducible refine gate_dst (N := 3) rfl ?_); refine box_event ?hg (N := 3) ?hd (cs := #[.slice A1_0 l1_0.length c1_0]) (t := 25) ?hr ?_; (case hd => rfl); (case hg => rfl); (case hr => first | (go_simp; done) | (go_simp; rfl)); intro gb381 hg w8 hbox hb; have n0_ := Aside0.mk (blk_below (g := gb380) (o := .cells #[.slice A0_0 l0_0.length c0_0] 25 (0, 0)) (by (with_reducible repeat (first | refine blk_drewN ?_ _ | refine blk_drew ?_ | refine blk_alloc ?_ _)); exact BK380.out) hb); have n1_ := Aside0.mk (below_step (by repeat (first | (with_reducible first | exact HB.out | apply below_alloc | apply pw_below_drewN | apply below_drew1 | refine below_set ?_ GE380.out) | exact HB.out)) hb); have n2_ := Aside0.mk (hbox); have n3_ := Aside0.mk ((by rw [hg]; exact (below_size (by repeat (first | (with_reducible first | exact HB.out | apply below_alloc | apply pw_below_drewN | apply below_drew1 | refine below_set ?_ GE380.out) | exact HB.out))) : w.heap.size ≤ gb381)); have n4_ := Aside0.mk ((by rw [hg]; exact (below_size (by repeat (first | (with_reducible first | exact HB.out | apply below_alloc | apply pw_below_drewN | apply below_drew1 | refine below_set ?_ GE380.out) | exact HB.out))) : w.heap.size ≤ gb381)); have n5_ := Aside0.mk ((by rw [hg]; exact Nat.ne_of_lt (blk_lt (g := gb380) (o := .cells #[.slice A0_0 l0_0.length c0_0] 25 (0, 0)) (by (with_reducible repeat (first | refine blk_drewN ?_ _ | refine blk_drew ?_ | refine blk_alloc ?_ _)); exact BK380.out)) : gb380 ≠ gb381)); have n6_ := Aside0.mk ((by rw [hg]; exact Nat.ne_of_gt (blk_lt (g := gb380) (o := .cells #[.slice A0_0 l0_0.length c0_0] 25 (0, 0)) (by (with_reducible repeat (first | refine blk_drewN ?_ _ | refine blk_drew ?_ | refine blk_alloc ?_ _)); exact BK380.out)) : gb381 ≠ gb380)); clear BK380; clear HB; have BK380 := n0_; have HB := n1_; have BK381 := n2_; have GW381 := n3_; have GE381 := n4_; have NB380_381 := n5_; have NB381_380 := n6_; clear n0_ n1_ n2_ n3_ n4_ n5_ n6_; clear hb hbox hg) | ((with_reducible refine gate_dst (N := 4) rfl ?_); refine box_event ?hg (N := 4) ?hd (cs := #[.slice none 0 0]) (t := 25) ?hr ?_; (case hd => rfl); (case hg => rfl); (case hr => first | (go_simp; done) | (go_simp; rfl)); intro gb382 hg w9 hbox hb; have n0_ := Aside0.mk (blk_below (g := gb380) (o := .cells #[.slice A0_0 l0_0.length c0_0] 25 (0, 0)) (by (with_reducible repeat (first | refine blk_drewN ?_ _ | refine blk_drew ?_ | refine blk_alloc ?_ _)); exact BK380.out) hb); have n1_ := Aside0.mk (blk_below (g := gb381) (o := .cells #[.slice A1_0 l1_0.length c1_0] 25 (0, 0)) (by (with_reducible repeat (first | refine blk_drewN ?_ _ | refine blk_drew ?_ | refine blk_alloc ?_ _)); exact BK381.out) hb); have n2_ := Aside0.mk (below_step (by repeat (first | (with_reducible first | exact HB.out | apply below_alloc | apply pw_below_drewN | apply below_drew1 | refine below_set ?_ GE380.out | refine below_set ?_ GE381.out) | exact HB.out)) hb); have n3_ := Aside0.mk (hbox); have n4_ := Aside0.mk ((by rw [hg]; exact (below_size (by repeat (first | (with_reducible first | exact HB.out | apply below_alloc | apply pw_below_drewN | apply below_drew1 | refine below_set ?_ GE380.out | refine below_set ?_ GE381.out) | exact HB.out))) : w.heap.size ≤ gb382)); have n5_ := Aside0.mk ((by rw [hg]; exact (below_size (by repeat (first | (with_reducible first | exact HB.out | apply below_alloc | apply pw_below_drewN | apply below_drew1 | refine below_set ?_ GE380.out | refine below_set ?_ GE381.out) | exact HB.out))) : w.heap.size ≤ gb382)); have n6_ := Aside0.mk ((by rw [hg]; exact Nat.ne_of_lt (blk_lt (g := gb380) (o := .cells #[.slice A0_0 l0_0.length c0_0] 25 (0, 0)) (by (with_reducible repeat (first | refine blk_drewN ?_ _ | refine blk_drew ?_ | refine blk_alloc ?_ _)); exact BK380.out)) : gb380 ≠ gb382)); have n7_ := Aside0.mk ((by rw [hg]; exact Nat.ne_of_gt (blk_lt (g := gb380) (o := .cells #[.slice A0_0 l0_0.length c0_0] 25 (0, 0)) (by (with_reducible repeat (first | refine blk_drewN ?_ _ | refine blk_drew ?_ | refine blk_alloc ?_ _)); exact BK380.out)) : gb382 ≠ gb380)); have n8_ := Aside0.mk ((by rw [hg]; exact Nat.ne_of_lt (blk_lt (g := gb381) (o := .cells #[.slice A1_0 l1_0.length c1_0] 25 (0, 0)) (by (with_reducible repeat (first | refine blk_drewN ?_ _ | refine blk_drew ?_ | refine blk_alloc ?_ _)); exact BK381.out)) : gb381 ≠ gb382)); have n9_ := Aside0.mk ((by rw [hg]; exact Nat.ne_of_gt (blk_lt (g := gb381) (o := .cells #[.slice A1_0 l1_0.length c1_0] 25 (0, 0)) (by (with_reducible repeat (first | refine blk_drewN ?_ _ | refine blk_drew ?_ | refine blk_alloc ?_ _)); exact BK381.out)) : gb382 ≠ gb381)); clear BK380; clear BK381; clear HB; have BK380 := n0_; have BK381 := n1_; have HB := n2_; have BK382 := n3_; have GW382 := n4_; have GE382 := n5_; have NB380_382 := n6_; have NB382_380 := n7_; have NB381_382 := n8_; have NB382_381 := n9_; clear n0_ n1_ n2_ n3_ n4_ n5_ n6_ n7_ n8_ n9_; clear hb hbox hg; have hnb10 := NB380_381.out; have hnc10 := NB381_380.out; have hnb11 := NB380_382.out; have hnc11 := NB382_380.out; have hcz12_0 : w9.cell? ⟨gb380, 0, none⟩ = some (.slice A0_0 l0_0.length c0_0) := (blk_cell BK380.out 0).trans rfl; have hfz12_0 := blk_frozen BK380.out 0; have hnb13 := NB381_382.out; have hnc13 := NB382_381.out; have hcz14_0 : w9.cell? ⟨gb381, 0, none⟩ = some (.slice A1_0 l1_0.length c1_0) := (blk_cell BK381.out 0).trans rfl; have hfz14_0 := blk_frozen BK381.out 0) | ((with_reducible refine gate_dst (N := 18) rfl ?_); refine Kd.R_make (Kd.int .u32) _ 23 rfl (N := 18) rfl 22 _ _ rfl ji4 rfl rfl Try.underlying22 (.int .u32 0) 4 info23 rfl (by decide) (by omega) 0 (ok := fun _ => True) (okp := fun _ => True) rfl (fun _ hk => hk) trivial (of_decide_eq_true (by first | (with_reducible assumption) | assumption)) (Nat.le_trans (Nat.mul_le_mul_right _ (of_decide_eq_true (by first | (with_reducible assumption) | assumption) : ji4.toNat ≤ 70368744177664)) (by omega)) (Below.refl _ _) (Nat.le_refl _) ?_; intro v384 w15 ho16 hb hg_ hnew_; clear hg_ hnew_; (first | rw [← Ny383.out] at ho16 | (simp only [Int.reduceToNat] at ho16; rw [← Ny383.out] at ho16)); have n0_ := Aside0.mk (Kd.R_lower ho16 (below_size (by repeat (first | (with_reducible first | exact HB.out | apply below_alloc | apply pw_below_drewN | apply below_drew1 | refine below_set ?_ GE380.out | refine below_set ?_ GE381.out | refine below_set ?_ GE382.out) | exact HB.out)))); have n1_ := Aside0.mk (blk_below (g := gb380) (o := .cells #[.slice A0_0 l0_0.length c0_0] 25 (0, 0)) (by (with_reducible repeat (first | refine blk_drewN ?_ _ | refine blk_drew ?_ | refine blk_alloc ?_ _)); exact BK380.out) hb); have n2_ := Aside0.mk (blk_below (g := gb381) (o := .cells #[.slice A1_0 l1_0.length c1_0] 25 (0, 0)) (by (with_reducible repeat (first | refine blk_drewN ?_ _ | refine blk_drew ?_ | refine blk_alloc ?_ _)); exact BK381.out) hb); have n3_ := Aside0.mk (blk_below (g := gb382) (o := .cells #[.slice none 0 0] 25 (0, 0)) (by (with_reducible repeat (first | refine blk_drewN ?_ _ | refine blk_drew ?_ | refine blk_alloc ?_ _)); exact BK382.out) hb); have n4_ := Aside0.mk (below_step (by repeat (first | (with_reducible first | exact HB.out | apply below_alloc | apply pw_below_drewN | apply below_drew1 | refine below_set ?_ GE380.out | refine below_set ?_ GE381.out | refine below_set ?_ GE382.out) | exact HB.out)) hb); clear BK380; clear BK381; clear BK382; clear HB; have HO385 := n0_; have BK380 := n1_; have BK381 := n2_; have BK382 := n3_; have HB := n4_; clear n0_ n1_ n2_ n3_ n4_; clear hb ho16; obtain ⟨Ao17, co17, eo17⟩ := Kd.R_slice HO385.out; subst eo17))
      (try simp only [Act.put, List.setIfInBounds_toArray, List.set_cons_zero, List.set_cons_succ])
      go_loopg [7, 21] k (fun kq v7 v21 w' => ∃ (x6_1 : List Int) (x7_1 : Int) (x21_1 : Int), v7 = .int .u32 x7_1 ∧ v21 = .int .i64 x21_1 ∧ Aside0 (nat_Add.l0 kq x6_1 x7_1 (y383.length : Int) x21_1 l0_0 l1_0 = some r) ∧ Aside0 (kq ≤ k) ∧ Aside0 (Kd.R (Kd.int .u32) 23 w' w.heap.size (fun _ => True) (.slice Ao17 y383.length co17) x6_1) ∧ Aside0 (w'.heap[gb380]? = some (.cells #[(.slice A0_0 l0_0.length c0_0)] 25 (0, 0))) ∧ Aside0 (w'.heap[gb381]? = some (.cells #[(.slice A1_0 l1_0.length c1_0)] 25 (0, 0))) ∧ Aside0 (w'.heap[gb382]? = some (.cells #[(.slice none 0 0)] 25 (0, 0))) ∧ Aside0 (Below w.heap.size w w'))
      case atStart => exact ⟨(y383), (0), (0), (by first | rfl | (simp; done) | (simp [*]; done)), (by first | rfl | (simp; done) | (simp [*]; done)), H', ⟨Nat.le_refl _⟩, ⟨by (with_reducible repeat (first | apply Kd.R_alloc | apply Kd.R_drewN | apply Kd.R_drew)); exact HO385.out⟩, ⟨by (with_reducible repeat (first | refine blk_drewN ?_ _ | refine blk_drew ?_ | refine blk_alloc ?_ _)); exact BK380.out⟩, ⟨by (with_reducible repeat (first | refine blk_drewN ?_ _ | refine blk_drew ?_ | refine blk_alloc ?_ _)); exact BK381.out⟩, ⟨by (with_reducible repeat (first | refine blk_drewN ?_ _ | refine blk_drew ?_ | refine blk_alloc ?_ _)); exact BK382.out⟩, ⟨by repeat (first | (with_reducible first | exact HB.out | apply below_alloc | apply pw_below_drewN | apply below_drew1 | refine below_set ?_ GE380.out | refine below_set ?_ GE381.out | refine below_set ?_ GE382.out) | exact HB.out)⟩⟩
      case round =>
        clear H'
        try clear c1
        try clear p2
        try clear c3
        try clear c5
        try clear c5b0
        try clear c5b1
        try clear c6
        try clear c6b0
        try clear c6b1
        try clear p6
        try clear c10
        try clear c11
        try clear c13
        try clear hcz12_0
        try clear hcz14_0
        try clear hfz12_0
        try clear hfz14_0
        obtain ⟨x6_1, x7_1, x21_1, rfl, rfl, HA, HK1, HO_6, BK380, BK381, BK382, HB⟩ := hrel
        have hl6_1 := (Kd.R_reads' HO_6.out).1
        rw [hl6_1] at HO_6
        (try simp only [hl6_1])
        (try simp only [hl6_1] at BK380)
        (try simp only [hl6_1] at BK381)
        (try simp only [hl6_1] at BK382)
        cases gk with
        | zero => exact absurd HA.out (by simp [nat_Add.l0])
        | succ k1 =>
          have H := HA.out
          clear HA
          simp only [nat_Add.l0] at H
          by_cases c18 : x21_1 < (y383.length : Int)
          · rw [if_pos c18] at H
            have c18b0 : decide (x21_1 < (y383.length : Int)) = true := decide_eq_true c18
            (try simp only [hl6_1] at c18b0)
            clear c18
            replace H := Option.bind_eq_some_iff.mp H
            obtain ⟨t386, A190, H⟩ := H
            replace H : ((nat_Nat_at.f l1_0 x21_1).bind fun t387 => ((bits_Add32.f t386 t387 x7_1).bind fun bt388 => (if 0 ≤ x21_1 then (if x21_1 < (x6_1.length : Int) then (nat_Add.l0 k1 (x6_1.set (x21_1 : Int).toNat bt388.1) bt388.2 (y383.length : Int) (wrap64 (x21_1 + 1)) l0_0 l1_0) else (none)) else (none)))) = some r := H
            have A19 := Aside0.mk A190
            clear A190
            replace H := Option.bind_eq_some_iff.mp H
            obtain ⟨t387, A200, H⟩ := H
            replace H : ((bits_Add32.f t386 t387 x7_1).bind fun bt388 => (if 0 ≤ x21_1 then (if x21_1 < (x6_1.length : Int) then (nat_Add.l0 k1 (x6_1.set (x21_1 : Int).toNat bt388.1) bt388.2 (y383.length : Int) (wrap64 (x21_1 + 1)) l0_0 l1_0) else (none)) else (none))) = some r := H
            have A20 := Aside0.mk A200
            clear A200
            replace H := Option.bind_eq_some_iff.mp H
            obtain ⟨⟨t388, t389⟩, A210, H⟩ := H
            replace H : (if 0 ≤ x21_1 then (if x21_1 < (x6_1.length : Int) then (nat_Add.l0 k1 (x6_1.set (x21_1 : Int).toNat t388) t389 (y383.length : Int) (wrap64 (x21_1 + 1)) l0_0 l1_0) else (none)) else (none)) = some r := H
            have A21 := Aside0.mk A210
            clear A210
            by_cases c22 : 0 ≤ x21_1
            · rw [if_pos c22] at H
              have c22b0 : decide (0 ≤ x21_1) = true := decide_eq_true c22
              (try simp only [hl6_1] at c22b0)
              clear c22
              by_cases c23 : x21_1 < (x6_1.length : Int)
              · rw [if_pos c23] at H
                have c23b0 : decide (x21_1 < (x6_1.length : Int)) = true := decide_eq_true c23
                (try simp only [hl6_1] at c23b0)
                clear c23
                obtain ⟨y390, hy390⟩ : ∃ y_ : List Int, y_ = (x6_1.set (x21_1 : Int).toNat t388) := ⟨_, rfl⟩
                replace H : (nat_Add.l0 k1 y390 t389 (y383.length : Int) (wrap64 (x21_1 + 1)) l0_0 l1_0) = some r := by first | (rw [hy390]; with_reducible exact H) | (have H2_ := (Option.bind_some _ _).symm.trans H; rw [hy390]; with_reducible exact H2_) | (have H2_ := (Option.bind_some _ _).symm.trans H; with_reducible exact H2_) | with_reducible exact H | (rw [hy390]; exact H) | exact H
                have Ny390 := Aside0.mk hy390
                clear hy390
                have H' := Aside0.mk H
                clear H
                try go_wp2
                have n0_ := Aside0.mk (Kd.R_drew HO_6.out)
                have n1_ := Aside0.mk (blk_drew BK380.out)
                have n2_ := Aside0.mk (blk_drew BK381.out)
                have n3_ := Aside0.mk (blk_drew BK382.out)
                have n4_ := Aside0.mk (below_drew1 HB.out)
                clear HO_6
                clear BK380
                clear BK381
                clear BK382
                clear HB
                have HO_6 := n0_
                have BK380 := n1_
                have BK381 := n2_
                have BK382 := n3_
                have HB := n4_
                clear n0_ n1_ n2_ n3_ n4_
                refine start_ (n := 16) (S := fun w' => w'.cell? ⟨gb380, 0, none⟩ = some (.slice A0_0 l0_0.length c0_0) ∧ w'.cell? ⟨gb381, 0, none⟩ = some (.slice A1_0 l1_0.length c1_0)) (ds := [14]) #[false, false, false, false, false, false, false, false, false, false, false, false, false, false, false, false] (by kernel_rfl) rfl rfl ⟨(blk_cell BK380.out 0).trans rfl, (blk_cell BK381.out 0).trans rfl⟩ (fun hHeld => ?_); refine with_tabW nat_Add.tab7 nat_Add.bits7 (fun HT_ HW_ => ?_)
                generalize wr.drew = w25 at HO_6 BK380 BK381 BK382 HB hHeld ⊢
                refine pure_ (i := 0) (N := some 25) (v := ?_) (a' := ?_) #[true, false, false, false, false, false, false, false, false, false, false, false, false, false, false, false] rfl rfl (any_of HT_.out (by kernel_rfl)) (fun _ _ _ h => h) (Or.inl ⟨by rfl, ?_⟩) ?_ ?_
                rotate_left
                · intro w'
                  go_simp
                  with_reducible rfl
                rotate_left
                · simp only [Act.put, List.setIfInBounds_toArray, List.set_cons_zero, List.set_cons_succ, i64_w, i32_w]
                  rfl
                refine pure_ (i := 1) (N := some 26) (v := ?_) (a' := ?_) #[true, true, false, false, false, false, false, false, false, false, false, false, false, false, false, false] rfl rfl (any_of HT_.out (by kernel_rfl)) (fun _ _ _ h => h) (Or.inl ⟨by rfl, ?_⟩) ?_ ?_
                rotate_left
                · intro w'
                  go_simp
                  with_reducible rfl
                rotate_left
                · simp only [Act.put, List.setIfInBounds_toArray, List.set_cons_zero, List.set_cons_succ, i64_w, i32_w]
                  rfl
                refine pure_ (i := 3) (N := some 28) (v := ?_) (a' := ?_) #[true, true, false, true, false, false, false, false, false, false, false, false, false, false, false, false] rfl rfl (any_of HT_.out (by kernel_rfl)) (fun _ _ _ h => h) (Or.inl ⟨by rfl, ?_⟩) ?_ ?_
                rotate_left
                · intro w'
                  go_simp
                  with_reducible rfl
                rotate_left
                · simp only [Act.put, List.setIfInBounds_toArray, List.set_cons_zero, List.set_cons_succ, i64_w, i32_w]
                  rfl
                refine pure_ (i := 6) (N := some 31) (v := ?_) (a' := ?_) #[true, true, false, true, false, false, true, false, false, false, false, false, false, false, false, false] rfl rfl (any_of HT_.out (by kernel_rfl)) (fun _ _ _ h => h) (Or.inl ⟨by rfl, ?_⟩) ?_ ?_
                rotate_left
                · intro w'
                  go_simp
                  with_reducible rfl
                rotate_left
                · simp only [Act.put, List.setIfInBounds_toArray, List.set_cons_zero, List.set_cons_succ, i64_w, i32_w]
                  rfl
                refine pure_ (i := 8) (N := some 33) (v := ?_) (a' := ?_) #[true, true, false, true, false, false, true, false, true, false, false, false, false, false, false, false] rfl rfl (any_of HT_.out (by kernel_rfl)) (fun _ _ _ h => h) (Or.inl ⟨by rfl, ?_⟩) ?_ ?_
                rotate_left
                · intro w'
                  go_simp
                  with_reducible rfl
                rotate_left
                · simp only [Act.put, List.setIfInBounds_toArray, List.set_cons_zero, List.set_cons_succ, i64_w, i32_w]
                  rfl
                refine take_ (i := 2) (N := some 27) (v := ?_) (a' := ?_) #[true, true, true, true, false, false, true, false, true, false, false, false, false, false, false, false] rfl rfl (take_ofW HT_.out HW_.out (by kernel_rfl)) (fun _ _ _ h => h) (Or.inl ⟨by rfl, ?_⟩) hHeld ?_ ?_
                rotate_left
                · rintro w' ⟨s0, s1⟩
                  go_simp
                  with_reducible rfl
                rotate_left
                · simp only [Act.put, List.setIfInBounds_toArray, List.set_cons_zero, List.set_cons_succ, i64_w, i32_w]
                  rfl
                refine take_ (i := 5) (N := some 30) (v := ?_) (a' := ?_) #[true, true, true, true, false, true, true, false, true, false, false, false, false, false, false, false] rfl rfl (take_ofW HT_.out HW_.out (by kernel_rfl)) (fun _ _ _ h => h) (Or.inl ⟨by rfl, ?_⟩) hHeld ?_ ?_
                rotate_left
                · rintro w' ⟨s0, s1⟩
                  go_simp
                  with_reducible rfl
                rotate_left
                · simp only [Act.put, List.setIfInBounds_toArray, List.set_cons_zero, List.set_cons_succ, i64_w, i32_w]
                  rfl
                refine one_ (i := 4) (N := some 29) #[true, true, true, true, true, true, true, false, true, false, false, false, false, false, false, false] rfl rfl (one_of HT_.out (by kernel_rfl)) (by decide) (fun K hK => ?_)
                refine goes_ Try.func53 (by kernel_rfl) rfl #[.agg #[.slice A0_0 l0_0.length c0_0], .int .i64 x21_1] (by rfl) rfl rfl (by (try simp only [List.map_toArray, List.map_cons, List.map_nil]); first | done | rfl | (simp only [List.length_drop, List.length_take]; rfl)) ?_
                with_reducible refine (nat_Nat_at.calls _ _ l0_0 x21_1 t386 _ ?side1 ?side2 A19.out).mono ?_
                (case side1 => repeat (first | exact (Kd.C_below HR0_0.out HB.out) | (with_reducible refine Kd.C_alloc ?_ _) | (with_reducible refine Kd.C_drewN ?_ _) | (with_reducible refine Kd.C_drew ?_)))
                (case side2 => exact HC0_0.out)
                rintro e w26 ⟨rfl, hb⟩
                refine ⟨_, rfl, ?_⟩
                have n0_ := Aside0.mk (Kd.R_below (by (with_reducible repeat (first | apply Kd.R_alloc | apply Kd.R_drewN | apply Kd.R_drew)); exact HO_6.out) hb)
                have n1_ := Aside0.mk (blk_below (g := gb380) (o := .cells #[.slice A0_0 l0_0.length c0_0] 25 (0, 0)) (by (with_reducible repeat (first | refine blk_drewN ?_ _ | refine blk_drew ?_ | refine blk_alloc ?_ _)); exact BK380.out) hb)
                have n2_ := Aside0.mk (blk_below (g := gb381) (o := .cells #[.slice A1_0 l1_0.length c1_0] 25 (0, 0)) (by (with_reducible repeat (first | refine blk_drewN ?_ _ | refine blk_drew ?_ | refine blk_alloc ?_ _)); exact BK381.out) hb)
                have n3_ := Aside0.mk (blk_below (g := gb382) (o := .cells #[.slice none 0 0] 25 (0, 0)) (by (with_reducible repeat (first | refine blk_drewN ?_ _ | refine blk_drew ?_ | refine blk_alloc ?_ _)); exact BK382.out) hb)
                have n4_ := Aside0.mk (below_step (by repeat (first | (with_reducible first | exact HB.out | apply below_alloc | apply pw_below_drewN | apply below_drew1 | refine below_set ?_ GE380.out | refine below_set ?_ GE381.out | refine below_set ?_ GE382.out) | exact HB.out)) hb)
                clear HO_6
                clear BK380
                clear BK381
                clear BK382
                clear HB
                have HO_6 := n0_
                have BK380 := n1_
                have BK381 := n2_
                have BK382 := n3_
                have HB := n4_
                clear n0_ n1_ n2_ n3_ n4_
                (try clear hb)
                (try clear hb2)
                (try clear hk)
                (try clear hi)
                refine hK.out _ _ ⟨(blk_cell BK380.out 0).trans rfl, (blk_cell BK381.out 0).trans rfl⟩ (fun hHeld => ?_)
                clear hK K
                refine norm_ (a' := ?_) ?_ ?_
                rotate_left
                · show Act.put _ (some 29) _ = _
                  simp only [Act.put, List.setIfInBounds_toArray, List.set_cons_zero, List.set_cons_succ, i64_w, i32_w]
                  rfl
                refine one_ (i := 7) (N := some 32) #[true, true, true, true, true, true, true, true, true, false, false, false, false, false, false, false] rfl rfl (one_of HT_.out (by kernel_rfl)) (by decide) (fun K hK => ?_)
                refine goes_ Try.func53 (by kernel_rfl) rfl #[.agg #[.slice A1_0 l1_0.length c1_0], .int .i64 x21_1] (by rfl) rfl rfl (by (try simp only [List.map_toArray, List.map_cons, List.map_nil]); first | done | rfl | (simp only [List.length_drop, List.length_take]; rfl)) ?_
                with_reducible refine (nat_Nat_at.calls _ _ l1_0 x21_1 t387 _ ?side1 ?side2 A20.out).mono ?_
                (case side1 => repeat (first | exact (Kd.C_below HR1_0.out HB.out) | (with_reducible refine Kd.C_alloc ?_ _) | (with_reducible refine Kd.C_drewN ?_ _) | (with_reducible refine Kd.C_drew ?_)))
                (case side2 => exact HC1_0.out)
                rintro e w27 ⟨rfl, hb⟩
                refine ⟨_, rfl, ?_⟩
                have n0_ := Aside0.mk (Kd.R_below (by (with_reducible repeat (first | apply Kd.R_alloc | apply Kd.R_drewN | apply Kd.R_drew)); exact HO_6.out) hb)
                have n1_ := Aside0.mk (blk_below (g := gb380) (o := .cells #[.slice A0_0 l0_0.length c0_0] 25 (0, 0)) (by (with_reducible repeat (first | refine blk_drewN ?_ _ | refine blk_drew ?_ | refine blk_alloc ?_ _)); exact BK380.out) hb)
                have n2_ := Aside0.mk (blk_below (g := gb381) (o := .cells #[.slice A1_0 l1_0.length c1_0] 25 (0, 0)) (by (with_reducible repeat (first | refine blk_drewN ?_ _ | refine blk_drew ?_ | refine blk_alloc ?_ _)); exact BK381.out) hb)
                have n3_ := Aside0.mk (blk_below (g := gb382) (o := .cells #[.slice none 0 0] 25 (0, 0)) (by (with_reducible repeat (first | refine blk_drewN ?_ _ | refine blk_drew ?_ | refine blk_alloc ?_ _)); exact BK382.out) hb)
                have n4_ := Aside0.mk (below_step (by repeat (first | (with_reducible first | exact HB.out | apply below_alloc | apply pw_below_drewN | apply below_drew1 | refine below_set ?_ GE380.out | refine below_set ?_ GE381.out | refine below_set ?_ GE382.out) | exact HB.out)) hb)
                clear HO_6
                clear BK380
                clear BK381
                clear BK382
                clear HB
                have HO_6 := n0_
                have BK380 := n1_
                have BK381 := n2_
                have BK382 := n3_
                have HB := n4_
                clear n0_ n1_ n2_ n3_ n4_
                (try clear hb)
                (try clear hb2)
                (try clear hk)
                (try clear hi)
                refine hK.out _ _ ⟨(blk_cell BK380.out 0).trans rfl, (blk_cell BK381.out 0).trans rfl⟩ (fun hHeld => ?_)
                clear hK K
                refine norm_ (a' := ?_) ?_ ?_
                rotate_left
                · show Act.put _ (some 32) _ = _
                  simp only [Act.put, List.setIfInBounds_toArray, List.set_cons_zero, List.set_cons_succ, i64_w, i32_w]
                  rfl
                refine one_ (i := 9) (N := some 34) #[true, true, true, true, true, true, true, true, true, true, false, false, false, false, false, false] rfl rfl (one_of HT_.out (by kernel_rfl)) (by decide) (fun K hK => ?_)
                refine goes_ Try.func56 (by kernel_rfl) rfl #[.int .u32 t386, .int .u32 t387, .int .u32 x7_1] (by rfl) rfl rfl (by (try simp only [List.map_toArray, List.map_cons, List.map_nil]); first | done | rfl | (simp only [List.length_drop, List.length_take]; rfl)) ?_
                with_reducible refine (bits_Add32.calls t386 t387 x7_1 t388 t389 _ A21.out).mono ?_
                rintro e w' ⟨rfl, ⟨nd, rfl⟩⟩
                refine ⟨_, rfl, ?_⟩
                have p24 : 0 ≤ (x21_1 : Int) := of_decide_eq_true (by first | (with_reducible assumption) | assumption)
                have q24 : (x21_1 : Int) < ((x6_1.length : Int) : Int) := of_decide_eq_true (by first | (with_reducible assumption) | assumption)
                obtain ⟨go24, co24, eo24, gb24, gl24, cl24, HG24⟩ := Kd.R_form HO_6.out (by omega)
                (first | cases eo24 | (injection eo24 with ea_ en_ ec_; (first | subst ea_ | (injection ea_ with ea_; subst ea_)); subst ec_; clear en_))
                have GB24 := Aside0.mk gb24
                have GG24 := Aside0.mk HG24
                clear gb24 gl24 HG24
                obtain ⟨hx24_0, hf24_0⟩ := Kd.R_celln 0 HO_6.out (x21_1 : Int) p24 q24
                (try simp only [Go.IntWalk.toNatUp] at hx24_0 hf24_0)
                replace p24 := eq_true p24
                replace q24 := eq_true q24
                have HP28 := Kd.R_putn HO_6.out (x21_1 : Int) t388
                rw [← Ny390.out] at HP28
                have HQ28 := Aside0.mk HP28
                clear HP28
                refine hK.out _ _ ⟨(blk_cell BK380.out 0).trans rfl, (blk_cell BK381.out 0).trans rfl⟩ (fun hHeld => ?_)
                clear hK K
                refine norm_ (a' := ?_) ?_ ?_
                rotate_left
                · show Act.put _ (some 34) _ = _
                  simp only [Act.put, List.setIfInBounds_toArray, List.set_cons_zero, List.set_cons_succ, i64_w, i32_w]
                  rfl
                refine pure_ (i := 10) (N := some 24) (v := ?_) (a' := ?_) #[true, true, true, true, true, true, true, true, true, true, true, false, false, false, false, false] rfl rfl (any_of HT_.out (by kernel_rfl)) (fun _ _ _ h => h) (Or.inl ⟨by rfl, ?_⟩) ?_ ?_
                rotate_left
                · intro w'
                  go_simp
                  with_reducible rfl
                rotate_left
                · simp only [Act.put, List.setIfInBounds_toArray, List.set_cons_zero, List.set_cons_succ, i64_w, i32_w]
                  rfl
                refine pure_ (i := 11) (N := some 35) (v := ?_) (a' := ?_) #[true, true, true, true, true, true, true, true, true, true, true, true, false, false, false, false] rfl rfl (any_of HT_.out (by kernel_rfl)) (fun _ _ _ h => h) (Or.inl ⟨by rfl, ?_⟩) ?_ ?_
                rotate_left
                · intro w'
                  go_simp
                  with_reducible rfl
                rotate_left
                · simp only [Act.put, List.setIfInBounds_toArray, List.set_cons_zero, List.set_cons_succ, i64_w, i32_w]
                  rfl
                refine pure_ (i := 12) (N := some 36) (v := ?_) (a' := ?_) #[true, true, true, true, true, true, true, true, true, true, true, true, true, false, false, false] rfl rfl (any_of HT_.out (by kernel_rfl)) (fun _ _ _ h => h) (Or.inl ⟨by rfl, ?_⟩) ?_ ?_
                rotate_left
                · intro w'
                  go_simp
                  with_reducible rfl
                rotate_left
                · simp only [Act.put, List.setIfInBounds_toArray, List.set_cons_zero, List.set_cons_succ, i64_w, i32_w]
                  rfl
                refine pure_ (i := 13) (N := some 37) (v := ?_) (a' := ?_) #[true, true, true, true, true, true, true, true, true, true, true, true, true, true, false, false] rfl rfl (any_of HT_.out (by kernel_rfl)) (fun _ _ _ h => h) (Or.inl ⟨by rfl, ?_⟩) ?_ ?_
                rotate_left
                · intro w'
                  go_simp
                  with_reducible rfl
                rotate_left
                · simp only [Act.put, List.setIfInBounds_toArray, List.set_cons_zero, List.set_cons_succ, i64_w, i32_w]
                  rfl
                refine last_ (i := 14) (N := none) #[true, true, true, true, true, true, true, true, true, true, true, true, true, true, true, false] rfl rfl (one_of HT_.out (by kernel_rfl)) (by decide) (fun K hK => ?_)
                refine skip_ (w1 := ?_) (by rfl) rfl ?_ ?_
                rotate_left
                · go_simp
                  rfl
                refine hK.out _ _ ?_
                clear hK K
                refine pure_ (i := 15) (N := some 7) (v := ?_) (a' := ?_) #[true, true, true, true, true, true, true, true, true, true, true, true, true, true, true, true] rfl rfl (any_of HT_.out (by kernel_rfl)) (fun _ _ _ h => h) (Or.inl ⟨by rfl, ?_⟩) ?_ ?_
                rotate_left
                · intro w'
                  go_simp
                  with_reducible rfl
                rotate_left
                · simp only [Act.put, List.setIfInBounds_toArray, List.set_cons_zero, List.set_cons_succ, i64_w, i32_w]
                  rfl
                refine done_ (done_of HT_.out (by kernel_rfl)) ?_
                try go_wp2
                (try simp only [← hl6_1])
                go_roundg k1
                case measure => have := HK1.out; omega
                case rel => exact ⟨(y390), (t389), (wrap64 (x21_1 + 1)), (by first | rfl | (simp; done) | (simp [*]; done)), (by first | rfl | (simp; done) | (simp [*]; done)), H', ⟨by have := HK1.out; omega⟩, ⟨by (try simp only [hl6_1]); (with_reducible repeat (first | apply Kd.R_alloc | apply Kd.R_drewN | apply Kd.R_drew)); exact HQ28.out⟩, ⟨by (try simp only [hl6_1]); (with_reducible repeat (first | refine blk_drewN ?_ _ | refine blk_drew ?_ | refine blk_alloc ?_ _)); refine blk_far ?_ (by have h_ := Kd.R_ne HO_6.out BK380.out (by decide); intro e_; exact h_ (by rw [e_]; rfl)) _; (with_reducible repeat (first | refine blk_drewN ?_ _ | refine blk_drew ?_ | refine blk_alloc ?_ _)); exact BK380.out⟩, ⟨by (try simp only [hl6_1]); (with_reducible repeat (first | refine blk_drewN ?_ _ | refine blk_drew ?_ | refine blk_alloc ?_ _)); refine blk_far ?_ (by have h_ := Kd.R_ne HO_6.out BK381.out (by decide); intro e_; exact h_ (by rw [e_]; rfl)) _; (with_reducible repeat (first | refine blk_drewN ?_ _ | refine blk_drew ?_ | refine blk_alloc ?_ _)); exact BK381.out⟩, ⟨by (try simp only [hl6_1]); (with_reducible repeat (first | refine blk_drewN ?_ _ | refine blk_drew ?_ | refine blk_alloc ?_ _)); refine blk_far ?_ (by have h_ := Kd.R_ne HO_6.out BK382.out (by decide); intro e_; exact h_ (by rw [e_]; rfl)) _; (with_reducible repeat (first | refine blk_drewN ?_ _ | refine blk_drew ?_ | refine blk_alloc ?_ _)); exact BK382.out⟩, ⟨by repeat (first | (with_reducible first | exact HB.out | apply below_alloc | apply pw_below_drewN | apply below_drew1 | refine below_set ?_ GB24.out | refine below_set ?_ GE380.out | refine below_set ?_ GE381.out | refine below_set ?_ GE382.out) | exact HB.out)⟩⟩
              · rw [if_neg c23] at H
                exact absurd H (by simp)
            · rw [if_neg c22] at H
              exact absurd H (by simp)
          · rw [if_neg c18] at H
            have c18b0 : decide (x21_1 < (y383.length : Int)) = false := decide_eq_false c18
            (try simp only [hl6_1] at c18b0)
            clear c18
            replace H := Option.bind_eq_some_iff.mp H
            obtain ⟨t391, A290, H⟩ := H
            replace H : (some t391) = some r := H
            have A29 := Aside0.mk A290
            clear A290
            obtain rfl := Option.some.inj H
            go_wp2_with (first | ((with_reducible refine gate_callee (f := 16) rfl ?_); refine goesL_ (some 40) rfl rfl Try.func16 (by kernel_rfl) rfl #[.slice Ao17 x6_1.length co17] rfl (by (try simp only [List.map_toArray, List.map_cons, List.map_nil]); first | done | rfl | (simp only [List.length_drop, List.length_take]; rfl)) ?_; (with_reducible refine (nat_Made.calls k1 _ _ x6_1 t391 _ ?side1 ?side2 A29.out).mono ?_); (case side1 => repeat (first | exact (Kd.R_reads' HO_6.out).2.2 | (with_reducible refine Kd.C_alloc ?_ _) | (with_reducible refine Kd.C_drewN ?_ _) | (with_reducible refine Kd.C_drew ?_))); (case side2 => exact (Kd.R_reads' HO_6.out).2.1); rintro e w30 ⟨v392, rfl, ho0, hb⟩; refine ⟨_, rfl, ?_⟩; have n0_ := Aside0.mk (Kd.R_elder' (by (with_reducible repeat (first | apply Kd.R_alloc | apply Kd.R_drewN | apply Kd.R_drew)); exact HO_6.out) (Kd.R_base ho0) hb); have n1_ := Aside0.mk (Kd.R_lower (Kd.R_new' ho0 (Kd.R_lt (by (with_reducible repeat (first | apply Kd.R_alloc | apply Kd.R_drewN | apply Kd.R_drew)); exact HO_6.out))) (below_size (by repeat (first | (with_reducible first | exact HB.out | apply below_alloc | apply pw_below_drewN | apply below_drew1 | refine below_set ?_ GE380.out | refine below_set ?_ GE381.out | refine below_set ?_ GE382.out) | exact HB.out)))); have n2_ := Aside0.mk (blk_below (g := gb380) (o := .cells #[.slice A0_0 l0_0.length c0_0] 25 (0, 0)) (by (with_reducible repeat (first | refine blk_drewN ?_ _ | refine blk_drew ?_ | refine blk_alloc ?_ _)); exact BK380.out) hb); have n3_ := Aside0.mk (blk_below (g := gb381) (o := .cells #[.slice A1_0 l1_0.length c1_0] 25 (0, 0)) (by (with_reducible repeat (first | refine blk_drewN ?_ _ | refine blk_drew ?_ | refine blk_alloc ?_ _)); exact BK381.out) hb); have n4_ := Aside0.mk (blk_below (g := gb382) (o := .cells #[.slice none 0 0] 25 (0, 0)) (by (with_reducible repeat (first | refine blk_drewN ?_ _ | refine blk_drew ?_ | refine blk_alloc ?_ _)); exact BK382.out) hb); have n5_ := Aside0.mk (below_step (by repeat (first | (with_reducible first | exact HB.out | apply below_alloc | apply pw_below_drewN | apply below_drew1 | refine below_set ?_ GE380.out | refine below_set ?_ GE381.out | refine below_set ?_ GE382.out) | exact HB.out)) hb); clear HO_6; clear BK380; clear BK381; clear BK382; clear HB; have HO_6 := n0_; have HO393 := n1_; have BK380 := n2_; have BK381 := n3_; have BK382 := n4_; have HB := n5_; clear n0_ n1_ n2_ n3_ n4_ n5_; (try clear hb); (try clear hb2); (try clear hk); (try clear hi); (try clear ho0); obtain ⟨Ao31, co31, eo31⟩ := Kd.R_slice HO393.out; subst eo31; have hnb32 := NB382_380.out; have hnc32 := NB380_382.out; have hnb33 := NB382_381.out; have hnc33 := NB381_382.out; have hcz34_0 : w30.cell? ⟨gb382, 0, none⟩ = some (.slice none 0 0) := (blk_cell BK382.out 0).trans rfl; have hfz34_0 := blk_frozen BK382.out 0))
            refine bodyPost_ret (results_cell_row rfl _ _ gb382 25 #[.slice Ao31 t391.length co31] (0, 0) _ rfl (by (with_reducible repeat (first | refine blk_drewN ?_ _ | refine blk_drew ?_ | refine blk_alloc ?_ _)); refine blk_put (cs := #[.slice none 0 0]) ?_ 0 _ rfl; (with_reducible repeat (first | refine blk_drewN ?_ _ | refine blk_drew ?_ | refine blk_alloc ?_ _)); exact BK382.out) Try.underlying25 rfl (by kernel_rfl)) rfl ?_
            exact ⟨_, by first | rfl | (simp [errW_none, errW_some] <;> rfl) | (simp only [← hji3, ← hji4]; first | rfl | (simp [errW_none, errW_some] <;> rfl)) | (simp [*, errW_none, errW_some] <;> rfl), by (with_reducible repeat (first | apply Kd.R_alloc | apply Kd.R_drewN | apply Kd.R_drew)); exact Kd.R_mono (Kd.R_far (p := ⟨gb382, 0, none⟩) (Kd.R_types HO393.out BK382.out (by decide)) (fun _ hk => hk.2) (.slice Ao31 t391.length co31)) (fun _ hk => trivial), by repeat (first | (with_reducible first | exact HB.out | apply below_alloc | apply pw_below_drewN | apply below_drew1 | refine below_set ?_ GE380.out | refine below_set ?_ GE381.out | refine below_set ?_ GE382.out) | exact HB.out)⟩
    · rw [if_neg c6] at H
      exact absurd H (by simp)
  · rw [if_neg c5] at H
    exact absurd H (by simp)

end Go.Proofs.Ytcepdndhkidehaa.PA
end
