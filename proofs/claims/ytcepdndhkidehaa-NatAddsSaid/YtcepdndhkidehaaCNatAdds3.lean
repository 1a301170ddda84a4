/- Of every two lists of limbs (of each the first thirty are taken), which of the two numbers is greater, their sum, and their difference, if there is one, are the document's; for every input of the model's kind, without conditions. -/
import Derived.Below
import Derived.ChangeOld
import Derived.OpenShut
import Derived.ProofKit
import Derived.ShutString
import Derived.SizedLaws
import Derived.Test.YtcepdndhkidehaaRows
import Derived.Test.YtcepdndhkidehaaWSized
import Derived.WalkKit
import Derived.Test.YtcepdndhkidehaaCNatAdds0
import Derived.Test.YtcepdndhkidehaaCNatAdds1
import Derived.Test.YtcepdndhkidehaaCNatAdds2
namespace Go.Proofs.Ytcepdndhkidehaa.PA
open Go.RowKit Go.Proofs.YtcepdndhkidehaaW.PrintWords Go.Proofs.YtcepdndhkidehaaW.PrintLast Go.Proofs.YtcepdndhkidehaaW.PrintMore
attribute [local go_sem] max2_int min2_int max_two min_two max_three min_three max_four min_four   -- for this text's walks alone
set_option linter.unusedVariables false
set_option linter.unusedSimpArgs false

/-! ### times_Pow: function 28 -/
def times_Pow.l0 : Nat → Int → List Int → List Int → Option (List Int)
  | 0, _, _, _ => none
  | k + 1, x1, x214000, x219000 => if x1 > 0 then (if (Go.bits .and .i64 x1 1) = 1 then ((times_Mul.f k x219000 x214000).bind fun t219 => (if x1 > 1 then ((times_Mul.f k x214000 x214000).bind fun t222 => (times_Pow.l0 k (x1 / 2) t222 t219)) else (times_Pow.l0 k (x1 / 2) x214000 t219))) else (if x1 > 1 then ((times_Mul.f k x214000 x214000).bind fun t225 => (times_Pow.l0 k (x1 / 2) t225 x219000)) else (times_Pow.l0 k (x1 / 2) x214000 x219000))) else (some x219000)
def times_Pow.f (k : Nat) (l0_0 : List Int) (a1 : Int) : Option (List Int) := (nat_Of.f k 1).bind fun t215 => (times_Pow.l0 k a1 l0_0 t215)
theorem times_Pow.mono_l : ∀ k, (∀ y0 y1 y2, LeO (times_Pow.l0 k y0 y1 y2) (times_Pow.l0 (k + 1) y0 y1 y2))
  | 0 => fun _ _ _ r h => by simp [times_Pow.l0] at h
  | k + 1 => by
    have ih0 := times_Pow.mono_l k
    · intro y0 y1 y2
      unfold times_Pow.l0
      repeat' first
      | (with_reducible exact ih0 _ _ _)
      | (with_reducible exact nat_Of.mono _ _)
      | (with_reducible exact times_Mul.mono _ _ _)
      | (with_reducible exact LeO.refl _)
      | (with_reducible exact LeO.none _)
      | (with_reducible refine LeO.ite ?_ ?_)
      | (with_reducible refine LeO.bind ?_ (fun _ => ?_))
      | exact ih0 _ _ _
      | exact nat_Of.mono _ _
      | exact times_Mul.mono _ _ _
      | exact LeO.none _
      | refine LeO.ite ?_ ?_
      | refine LeO.bind ?_ (fun _ => ?_)
theorem times_Pow.mono : ∀ a0 a1 k, LeO (times_Pow.f k a0 a1) (times_Pow.f (k + 1) a0 a1) := by
  intro a0 a1 k
  have ih0 := times_Pow.mono_l k
  unfold times_Pow.f
  repeat' first
      | (with_reducible exact ih0 _ _ _)
      | (with_reducible exact nat_Of.mono _ _)
      | (with_reducible exact times_Mul.mono _ _ _)
      | (with_reducible exact LeO.refl _)
      | (with_reducible exact LeO.none _)
      | (with_reducible refine LeO.ite ?_ ?_)
      | (with_reducible refine LeO.bind ?_ (fun _ => ?_))
      | exact ih0 _ _ _
      | exact nat_Of.mono _ _
      | exact times_Mul.mono _ _ _
      | exact LeO.none _
      | refine LeO.ite ?_ ?_
      | refine LeO.bind ?_ (fun _ => ?_)
set_option maxHeartbeats 8000000 in
set_option maxRecDepth 100000 in
theorem times_Pow.calls (k : Nat) (P0_0_ : Nat → Prop) (A0_0 : Option Addr) (c0_0 : Nat) (l0_0 : List Int) (a1 : Int) (r : List Int) (w : World) (hs0_0 : Kd.V (Kd.int .u32) 23 w w.heap.size (fun k_ => P0_0_ k_) (.slice A0_0 l0_0.length c0_0) l0_0) (h : times_Pow.f k l0_0 a1 = some r) :
    Calls Try.prog 28 #[.agg #[.slice A0_0 l0_0.length c0_0], .int .i64 a1] w fun e w' => ∃ v0_ : Value, e = .returned (.agg #[v0_]) ∧ Kd.R (Kd.int .u32) 23 w' w.heap.size (fun k_ => (w.heap.size ≤ k_)) v0_ r ∧ Below w.heap.size w w' := by
  have hu25 := Try.underlying25
  have HO0_0 := Aside0.mk (show Kd.V (Kd.int .u32) 23 w w.heap.size (fun k_ => (P0_0_ k_ ∨ w.heap.size ≤ k_)) (.slice A0_0 l0_0.length c0_0) l0_0 from Kd.V_mono hs0_0 (fun k_ hk => .inl hk))
  have HB := Aside0.mk (Below.refl w.heap.size w)
  have H : ((nat_Of.f k 1).bind fun t215 => (times_Pow.l0 k a1 l0_0 t215)) = some r := h
  clear h
  replace H := Option.bind_eq_some_iff.mp H
  obtain ⟨t215, A30, H⟩ := H
  replace H : (times_Pow.l0 k a1 l0_0 t215) = some r := H
  have A3 := Aside0.mk A30
  clear A30
  have H' := Aside0.mk H
  clear H
  go_enter Try.func28, Try.ntmps28
  go_wp2_with (first | ((with_reducible refine gate_dst (N := 2) rfl ?_); refine box_event ?hg (N := 2) ?hd (cs := #[.slice A0_0 l0_0.length c0_0]) (t := 25) ?hr ?_; (case hd => rfl); (case hg => rfl); (case hr => first | (go_simp; done) | (go_simp; rfl)); intro gb213 hg w4 hbox hb; have n0_ := Aside0.mk (Kd.V_below (Kd.V_elderB (by (with_reducible repeat (first | apply Kd.V_alloc | apply Kd.V_drewN | apply Kd.V_drew)); exact HO0_0.out) gb213 (Nat.le_of_eq hg.symm)) hb); have n1_ := Aside0.mk (below_step (by repeat (first | (with_reducible first | exact HB.out | apply below_alloc | apply pw_below_drewN | apply below_drew1) | exact HB.out)) hb); have n2_ := Aside0.mk (hbox); have n3_ := Aside0.mk ((by rw [hg]; exact (below_size (by repeat (first | (with_reducible first | exact HB.out | apply below_alloc | apply pw_below_drewN | apply below_drew1) | exact HB.out))) : w.heap.size ≤ gb213)); have n4_ := Aside0.mk ((by rw [hg]; exact (below_size (by repeat (first | (with_reducible first | exact HB.out | apply below_alloc | apply pw_below_drewN | apply below_drew1) | exact HB.out))) : w.heap.size ≤ gb213)); clear HO0_0; clear HB; have HO0_0 := n0_; have HB := n1_; have BK213 := n2_; have GW213 := n3_; have GE213 := n4_; clear n0_ n1_ n2_ n3_ n4_; clear hb hbox hg) | ((with_reducible refine gate_dst (N := 4) rfl ?_); refine box_event ?hg (N := 4) ?hd (cs := #[.slice none 0 0]) (t := 25) ?hr ?_; (case hd => rfl); (case hg => rfl); (case hr => first | (go_simp; done) | (go_simp; rfl)); intro gb214 hg w5 hbox hb; have n0_ := Aside0.mk (Kd.V_below (Kd.V_elderB (by (with_reducible repeat (first | apply Kd.V_alloc | apply Kd.V_drewN | apply Kd.V_drew)); exact HO0_0.out) gb214 (Nat.le_of_eq hg.symm)) hb); have n1_ := Aside0.mk (blk_below (g := gb213) (o := .cells #[.slice A0_0 l0_0.length c0_0] 25 (0, 0)) (by (with_reducible repeat (first | refine blk_drewN ?_ _ | refine blk_drew ?_ | refine blk_alloc ?_ _)); exact BK213.out) hb); have n2_ := Aside0.mk (below_step (by repeat (first | (with_reducible first | exact HB.out | apply below_alloc | apply pw_below_drewN | apply below_drew1 | refine below_set ?_ GE213.out) | exact HB.out)) hb); have n3_ := Aside0.mk (hbox); have n4_ := Aside0.mk ((by rw [hg]; exact (below_size (by repeat (first | (with_reducible first | exact HB.out | apply below_alloc | apply pw_below_drewN | apply below_drew1 | refine below_set ?_ GE213.out) | exact HB.out))) : w.heap.size ≤ gb214)); have n5_ := Aside0.mk ((by rw [hg]; exact (below_size (by repeat (first | (with_reducible first | exact HB.out | apply below_alloc | apply pw_below_drewN | apply below_drew1 | refine below_set ?_ GE213.out) | exact HB.out))) : w.heap.size ≤ gb214)); have n6_ := Aside0.mk ((by rw [hg]; exact Nat.ne_of_lt (blk_lt (g := gb213) (o := .cells #[.slice A0_0 l0_0.length c0_0] 25 (0, 0)) (by (with_reducible repeat (first | refine blk_drewN ?_ _ | refine blk_drew ?_ | refine blk_alloc ?_ _)); exact BK213.out)) : gb213 ≠ gb214)); have n7_ := Aside0.mk ((by rw [hg]; exact Nat.ne_of_gt (blk_lt (g := gb213) (o := .cells #[.slice A0_0 l0_0.length c0_0] 25 (0, 0)) (by (with_reducible repeat (first | refine blk_drewN ?_ _ | refine blk_drew ?_ | refine blk_alloc ?_ _)); exact BK213.out)) : gb214 ≠ gb213)); clear HO0_0; clear BK213; clear HB; have HO0_0 := n0_; have BK213 := n1_; have HB := n2_; have BK214 := n3_; have GW214 := n4_; have GE214 := n5_; have NB213_214 := n6_; have NB214_213 := n7_; clear n0_ n1_ n2_ n3_ n4_ n5_ n6_ n7_; clear hb hbox hg) | ((with_reducible refine gate_callee (f := 26) rfl ?_); refine goesL_ (some 6) rfl rfl Try.func26 (by kernel_rfl) rfl #[.int .u64 1] rfl (by (try simp only [List.map_toArray, List.map_cons, List.map_nil]); first | done | rfl | (simp only [List.length_drop, List.length_take]; rfl)) ?_; (with_reducible refine (nat_Of.calls k 1 t215 _ A3.out).mono ?_); rintro e w6 ⟨v216, rfl, ho0, hb⟩; refine ⟨_, rfl, ?_⟩; have n0_ := Aside0.mk (Kd.V_elder' (by (with_reducible repeat (first | apply Kd.V_alloc | apply Kd.V_drewN | apply Kd.V_drew)); exact HO0_0.out) (Kd.R_base ho0) hb); have n1_ := Aside0.mk (Kd.R_lower (Kd.R_newM (M := fun k_ => (w.heap.size ≤ k_)) ho0 (below_size (by repeat (first | (with_reducible first | exact HB.out | apply below_alloc | apply pw_below_drewN | apply below_drew1 | refine below_set ?_ GE213.out | refine below_set ?_ GE214.out) | exact HB.out))) (fun k_ h_ => h_)) (below_size (by repeat (first | (with_reducible first | exact HB.out | apply below_alloc | apply pw_below_drewN | apply below_drew1 | refine below_set ?_ GE213.out | refine below_set ?_ GE214.out) | exact HB.out)))); have n2_ := Aside0.mk (blk_below (g := gb213) (o := .cells #[.slice A0_0 l0_0.length c0_0] 25 (0, 0)) (by (with_reducible repeat (first | refine blk_drewN ?_ _ | refine blk_drew ?_ | refine blk_alloc ?_ _)); exact BK213.out) hb); have n3_ := Aside0.mk (blk_below (g := gb214) (o := .cells #[.slice none 0 0] 25 (0, 0)) (by (with_reducible repeat (first | refine blk_drewN ?_ _ | refine blk_drew ?_ | refine blk_alloc ?_ _)); exact BK214.out) hb); have n4_ := Aside0.mk (below_step (by repeat (first | (with_reducible first | exact HB.out | apply below_alloc | apply pw_below_drewN | apply below_drew1 | refine below_set ?_ GE213.out | refine below_set ?_ GE214.out) | exact HB.out)) hb); clear HO0_0; clear BK213; clear BK214; clear HB; have HO0_0 := n0_; have HO217 := n1_; have BK213 := n2_; have BK214 := n3_; have HB := n4_; clear n0_ n1_ n2_ n3_ n4_; (try clear hb); (try clear hb2); (try clear hk); (try clear hi); (try clear ho0)) | ((with_reducible refine gate_dst (N := 5) rfl ?_); refine box_event ?hg (N := 5) ?hd (cs := #[.slice none 0 0]) (t := 25) ?hr ?_; (case hd => rfl); (case hg => rfl); (case hr => first | (go_simp; done) | (go_simp; rfl)); intro gb218 hg w7 hbox hb; have n0_ := Aside0.mk (Kd.V_below (Kd.V_elderB (by (with_reducible repeat (first | apply Kd.V_alloc | apply Kd.V_drewN | apply Kd.V_drew)); exact HO0_0.out) gb218 (Nat.le_of_eq hg.symm)) hb); have n1_ := Aside0.mk (Kd.R_below (by (with_reducible repeat (first | apply Kd.R_alloc | apply Kd.R_drewN | apply Kd.R_drew)); exact HO217.out) hb); have n2_ := Aside0.mk (blk_below (g := gb213) (o := .cells #[.slice A0_0 l0_0.length c0_0] 25 (0, 0)) (by (with_reducible repeat (first | refine blk_drewN ?_ _ | refine blk_drew ?_ | refine blk_alloc ?_ _)); exact BK213.out) hb); have n3_ := Aside0.mk (blk_below (g := gb214) (o := .cells #[.slice none 0 0] 25 (0, 0)) (by (with_reducible repeat (first | refine blk_drewN ?_ _ | refine blk_drew ?_ | refine blk_alloc ?_ _)); exact BK214.out) hb); have n4_ := Aside0.mk (below_step (by repeat (first | (with_reducible first | exact HB.out | apply below_alloc | apply pw_below_drewN | apply below_drew1 | refine below_set ?_ GE213.out | refine below_set ?_ GE214.out) | exact HB.out)) hb); have n5_ := Aside0.mk (hbox); have n6_ := Aside0.mk ((by rw [hg]; exact (below_size (by repeat (first | (with_reducible first | exact HB.out | apply below_alloc | apply pw_below_drewN | apply below_drew1 | refine below_set ?_ GE213.out | refine below_set ?_ GE214.out) | exact HB.out))) : w.heap.size ≤ gb218)); have n7_ := Aside0.mk ((by rw [hg]; exact (below_size (by repeat (first | (with_reducible first | exact HB.out | apply below_alloc | apply pw_below_drewN | apply below_drew1 | refine below_set ?_ GE213.out | refine below_set ?_ GE214.out) | exact HB.out))) : w.heap.size ≤ gb218)); have n8_ := Aside0.mk ((by rw [hg]; exact Nat.ne_of_lt (blk_lt (g := gb213) (o := .cells #[.slice A0_0 l0_0.length c0_0] 25 (0, 0)) (by (with_reducible repeat (first | refine blk_drewN ?_ _ | refine blk_drew ?_ | refine blk_alloc ?_ _)); exact BK213.out)) : gb213 ≠ gb218)); have n9_ := Aside0.mk ((by rw [hg]; exact Nat.ne_of_gt (blk_lt (g := gb213) (o := .cells #[.slice A0_0 l0_0.length c0_0] 25 (0, 0)) (by (with_reducible repeat (first | refine blk_drewN ?_ _ | refine blk_drew ?_ | refine blk_alloc ?_ _)); exact BK213.out)) : gb218 ≠ gb213)); have n10_ := Aside0.mk ((by rw [hg]; exact Nat.ne_of_lt (blk_lt (g := gb214) (o := .cells #[.slice none 0 0] 25 (0, 0)) (by (with_reducible repeat (first | refine blk_drewN ?_ _ | refine blk_drew ?_ | refine blk_alloc ?_ _)); exact BK214.out)) : gb214 ≠ gb218)); have n11_ := Aside0.mk ((by rw [hg]; exact Nat.ne_of_gt (blk_lt (g := gb214) (o := .cells #[.slice none 0 0] 25 (0, 0)) (by (with_reducible repeat (first | refine blk_drewN ?_ _ | refine blk_drew ?_ | refine blk_alloc ?_ _)); exact BK214.out)) : gb218 ≠ gb214)); clear HO0_0; clear HO217; clear BK213; clear BK214; clear HB; have HO0_0 := n0_; have HO217 := n1_; have BK213 := n2_; have BK214 := n3_; have HB := n4_; have BK218 := n5_; have GW218 := n6_; have GE218 := n7_; have NB213_218 := n8_; have NB218_213 := n9_; have NB214_218 := n10_; have NB218_214 := n11_; clear n0_ n1_ n2_ n3_ n4_ n5_ n6_ n7_ n8_ n9_ n10_ n11_; clear hb hbox hg; obtain ⟨Ao8, co8, eo8⟩ := Kd.R_slice HO217.out; subst eo8; have hnb9 := NB218_213.out; have hnc9 := NB213_218.out; have hnb10 := NB218_214.out; have hnc10 := NB214_218.out; have hcz11_0 : w7.cell? ⟨gb218, 0, none⟩ = some (.slice none 0 0) := (blk_cell BK218.out 0).trans rfl; have hfz11_0 := blk_frozen BK218.out 0))
  (try simp only [Act.put, List.setIfInBounds_toArray, List.set_cons_zero, List.set_cons_succ])
  go_loopg [1] k (fun kq v1 w' => ∃ (x1_1 : Int) (x214000_1 : List Int) (x219000_1 : List Int) (u214000 : Value) (u219000 : Value), v1 = .int .i64 x1_1 ∧ Aside0 (times_Pow.l0 kq x1_1 x214000_1 x219000_1 = some r) ∧ Aside0 (kq ≤ k) ∧ Aside0 (Kd.V (Kd.int .u32) 23 w' w.heap.size (fun k_ => (P0_0_ k_ ∨ w.heap.size ≤ k_) ∧ some k_ ≠ (u219000 : Value).ownBlock ∧ k_ ≠ gb213 ∧ k_ ≠ gb214 ∧ k_ ≠ gb218) u214000 x214000_1) ∧ Aside0 (Kd.R (Kd.int .u32) 23 w' w.heap.size (fun k_ => (w.heap.size ≤ k_)) u219000 x219000_1) ∧ Aside0 (w'.heap[gb213]? = some (.cells #[u214000] 25 (0, 0))) ∧ Aside0 (w'.heap[gb214]? = some (.cells #[(.slice none 0 0)] 25 (0, 0))) ∧ Aside0 (w'.heap[gb218]? = some (.cells #[u219000] 25 (0, 0))) ∧ Aside0 (Below w.heap.size w w'))
  case atStart => exact ⟨(a1), (l0_0), (t215), (.slice A0_0 l0_0.length c0_0), (.slice Ao8 t215.length co8), (by first | rfl | (simp; done) | (simp [*]; done)), H', ⟨Nat.le_refl _⟩, ⟨by (with_reducible repeat (first | apply Kd.V_alloc | apply Kd.V_drewN | apply Kd.V_drew)); exact Kd.V_mono (Kd.V_far (p := ⟨gb218, 0, none⟩) (Kd.V_mono HO0_0.out (fun k_ hk => (⟨hk, hk.2⟩ : _ ∧ k_ ≠ gb218))) (fun _ hk => hk.2) (.slice Ao8 t215.length co8)) (fun _ hk => ⟨hk.1.1.1.1.1, ⟨hk.1.1.2, ⟨hk.1.1.1.1.2, ⟨hk.1.1.1.2, hk.1.2⟩⟩⟩⟩)⟩, ⟨by (with_reducible repeat (first | apply Kd.R_alloc | apply Kd.R_drewN | apply Kd.R_drew)); exact Kd.R_mono (Kd.R_far (p := ⟨gb218, 0, none⟩) (Kd.R_types HO217.out BK218.out (by decide)) (fun _ hk => hk.2) (.slice Ao8 t215.length co8)) (fun _ hk => hk.1.1)⟩, ⟨by (with_reducible repeat (first | refine blk_drewN ?_ _ | refine blk_drew ?_ | refine blk_alloc ?_ _)); refine blk_far ?_ NB213_218.out _; (with_reducible repeat (first | refine blk_drewN ?_ _ | refine blk_drew ?_ | refine blk_alloc ?_ _)); exact BK213.out⟩, ⟨by (with_reducible repeat (first | refine blk_drewN ?_ _ | refine blk_drew ?_ | refine blk_alloc ?_ _)); refine blk_far ?_ NB214_218.out _; (with_reducible repeat (first | refine blk_drewN ?_ _ | refine blk_drew ?_ | refine blk_alloc ?_ _)); exact BK214.out⟩, ⟨by (with_reducible repeat (first | refine blk_drewN ?_ _ | refine blk_drew ?_ | refine blk_alloc ?_ _)); refine blk_put (cs := #[.slice none 0 0]) ?_ 0 _ rfl; (with_reducible repeat (first | refine blk_drewN ?_ _ | refine blk_drew ?_ | refine blk_alloc ?_ _)); exact BK218.out⟩, ⟨by repeat (first | (with_reducible first | exact HB.out | apply below_alloc | apply pw_below_drewN | apply below_drew1 | refine below_set ?_ GE213.out | refine below_set ?_ GE214.out | refine below_set ?_ GE218.out) | exact HB.out)⟩⟩
  case round =>
    clear H'
    try clear c1
    try clear c2
    try clear p2
    try clear c9
    try clear c10
    try clear hcz11_0
    try clear hfz11_0
    obtain ⟨x1_1, x214000_1, x219000_1, u214000, u219000, rfl, HA, HK1, HO_214000, HO_219000, BK213, BK214, BK218, HB⟩ := hrel
    cases gk with
    | zero => exact absurd HA.out (by simp [times_Pow.l0])
    | succ k1 =>
      have H := HA.out
      clear HA
      simp only [times_Pow.l0] at H
      by_cases c12 : x1_1 > 0
      · rw [if_pos c12] at H
        have c12b0 : decide (0 < x1_1) = true := decide_eq_true c12
        clear c12
        by_cases c13 : (Go.bits .and .i64 x1_1 1) = 1
        · rw [if_pos c13] at H
          have c13b0 : ((Go.bits .and .i64 x1_1 1) == 1) = true := beq_iff_eq.mpr c13
          have c13b1 : ((Go.bits .and .i64 x1_1 1) != 1) = false := bne_eq_false_iff_eq.mpr c13
          clear c13
          replace H := Option.bind_eq_some_iff.mp H
          obtain ⟨t219, A140, H⟩ := H
          replace H : (if x1_1 > 1 then ((times_Mul.f k1 x214000_1 x214000_1).bind fun t222 => (times_Pow.l0 k1 (x1_1 / 2) t222 t219)) else (times_Pow.l0 k1 (x1_1 / 2) x214000_1 t219)) = some r := H
          have A14 := Aside0.mk A140
          clear A140
          by_cases c15 : x1_1 > 1
          · rw [if_pos c15] at H
            have c15b0 : decide (1 < x1_1) = true := decide_eq_true c15
            clear c15
            replace H := Option.bind_eq_some_iff.mp H
            obtain ⟨t222, A160, H⟩ := H
            replace H : (times_Pow.l0 k1 (x1_1 / 2) t222 t219) = some r := H
            have A16 := Aside0.mk A160
            clear A160
            have H' := Aside0.mk H
            clear H
            have hnb17 := NB218_213.out
            have hnc17 := NB213_218.out
            have hnb18 := NB218_214.out
            have hnc18 := NB214_218.out
            have hcz19_0 : wr.cell? ⟨gb218, 0, none⟩ = some (u219000) := (blk_cell BK218.out 0).trans rfl
            have hfz19_0 := blk_frozen BK218.out 0
            have hnb20 := NB213_214.out
            have hnc20 := NB214_213.out
            have hcz21_0 : wr.cell? ⟨gb213, 0, none⟩ = some (u214000) := (blk_cell BK213.out 0).trans rfl
            have hfz21_0 := blk_frozen BK213.out 0
            obtain ⟨Ao22, co22, eo22⟩ := Kd.R_slice HO_219000.out
            subst eo22
            obtain ⟨Ao23, co23, eo23⟩ := Kd.V_slice HO_214000.out
            subst eo23
            go_wp2_with (first | ((with_reducible refine gate_callee (f := 24) rfl ?_); refine goesL_ (some 16) rfl rfl Try.func24 (by kernel_rfl) rfl #[.agg #[.slice Ao22 x219000_1.length co22], .agg #[.slice Ao23 x214000_1.length co23]] rfl (by (try simp only [List.map_toArray, List.map_cons, List.map_nil]); first | done | rfl | (simp only [List.length_drop, List.length_take]; rfl)) ?_; (with_reducible refine (times_Mul.calls k1 _ _ x219000_1 _ _ x214000_1 t219 _ ?side1 ?side2 ?side3 ?side4 A14.out).mono ?_); (case side1 => repeat (first | exact (Kd.R_reads' HO_219000.out).2.2 | (with_reducible refine Kd.C_alloc ?_ _) | (with_reducible refine Kd.C_drewN ?_ _) | (with_reducible refine Kd.C_drew ?_))); (case side2 => exact (Kd.R_reads' HO_219000.out).2.1); (case side3 => repeat (first | exact (Kd.V_reads' HO_214000.out).2.2 | (with_reducible refine Kd.C_alloc ?_ _) | (with_reducible refine Kd.C_drewN ?_ _) | (with_reducible refine Kd.C_drew ?_))); (case side4 => exact (Kd.V_reads' HO_214000.out).2.1); rintro e w24 ⟨v220, rfl, ho0, hb⟩; refine ⟨_, rfl, ?_⟩; have n0_ := Aside0.mk (Kd.V_elder' (by (with_reducible repeat (first | apply Kd.V_alloc | apply Kd.V_drewN | apply Kd.V_drew)); exact HO_214000.out) (Kd.R_base ho0) hb); have n1_ := Aside0.mk (Kd.R_elder' (by (with_reducible repeat (first | apply Kd.R_alloc | apply Kd.R_drewN | apply Kd.R_drew)); exact HO_219000.out) (Kd.R_base ho0) hb); have n2_ := Aside0.mk (Kd.R_lower (Kd.R_new' (Kd.R_newM (M := fun k_ => (w.heap.size ≤ k_)) ho0 (below_size (by repeat (first | (with_reducible first | exact HB.out | apply below_alloc | apply pw_below_drewN | apply below_drew1 | refine below_set ?_ GE213.out | refine below_set ?_ GE214.out | refine below_set ?_ GE218.out) | exact HB.out))) (fun k_ h_ => h_)) (Kd.R_lt (by (with_reducible repeat (first | apply Kd.R_alloc | apply Kd.R_drewN | apply Kd.R_drew)); exact HO_219000.out))) (below_size (by repeat (first | (with_reducible first | exact HB.out | apply below_alloc | apply pw_below_drewN | apply below_drew1 | refine below_set ?_ GE213.out | refine below_set ?_ GE214.out | refine below_set ?_ GE218.out) | exact HB.out)))); have n3_ := Aside0.mk (blk_below (g := gb213) (o := .cells #[.slice Ao23 x214000_1.length co23] 25 (0, 0)) (by (with_reducible repeat (first | refine blk_drewN ?_ _ | refine blk_drew ?_ | refine blk_alloc ?_ _)); exact BK213.out) hb); have n4_ := Aside0.mk (blk_below (g := gb214) (o := .cells #[.slice none 0 0] 25 (0, 0)) (by (with_reducible repeat (first | refine blk_drewN ?_ _ | refine blk_drew ?_ | refine blk_alloc ?_ _)); exact BK214.out) hb); have n5_ := Aside0.mk (blk_below (g := gb218) (o := .cells #[.slice Ao22 x219000_1.length co22] 25 (0, 0)) (by (with_reducible repeat (first | refine blk_drewN ?_ _ | refine blk_drew ?_ | refine blk_alloc ?_ _)); exact BK218.out) hb); have n6_ := Aside0.mk (below_step (by repeat (first | (with_reducible first | exact HB.out | apply below_alloc | apply pw_below_drewN | apply below_drew1 | refine below_set ?_ GE213.out | refine below_set ?_ GE214.out | refine below_set ?_ GE218.out) | exact HB.out)) hb); clear HO_214000; clear HO_219000; clear BK213; clear BK214; clear BK218; clear HB; have HO_214000 := n0_; have HO_219000 := n1_; have HO221 := n2_; have BK213 := n3_; have BK214 := n4_; have BK218 := n5_; have HB := n6_; clear n0_ n1_ n2_ n3_ n4_ n5_ n6_; (try clear hb); (try clear hb2); (try clear hk); (try clear hi); (try clear ho0); obtain ⟨Ao25, co25, eo25⟩ := Kd.R_slice HO221.out; subst eo25; have hcz26_0 : w24.cell? ⟨gb218, 0, none⟩ = some (.slice Ao22 x219000_1.length co22) := (blk_cell BK218.out 0).trans rfl; have hfz26_0 := blk_frozen BK218.out 0; have hcz27_0 : w24.cell? ⟨gb213, 0, none⟩ = some (.slice Ao23 x214000_1.length co23) := (blk_cell BK213.out 0).trans rfl; have hfz27_0 := blk_frozen BK213.out 0) | ((with_reducible refine gate_callee (f := 24) rfl ?_); refine goesL_ (some 21) rfl rfl Try.func24 (by kernel_rfl) rfl #[.agg #[.slice Ao23 x214000_1.length co23], .agg #[.slice Ao23 x214000_1.length co23]] rfl (by (try simp only [List.map_toArray, List.map_cons, List.map_nil]); first | done | rfl | (simp only [List.length_drop, List.length_take]; rfl)) ?_; (with_reducible refine (times_Mul.calls k1 _ _ x214000_1 _ _ x214000_1 t222 _ ?side1 ?side2 ?side3 ?side4 A16.out).mono ?_); (case side1 => exact (Kd.V_reads' (e := 23) (base := w.heap.size) (n := x214000_1.length) (c := co23) (by (with_reducible repeat (first | apply Kd.V_alloc | apply Kd.V_drewN | apply Kd.V_drew)); exact (Kd.V_mono (Kd.V_far (p := ⟨gb218, 0, none⟩) (Kd.V_mono HO_214000.out (fun k_ hk => (⟨hk, hk.1.2.2.2.2⟩ : _ ∧ k_ ≠ gb218))) (fun _ hk => hk.2) (.slice Ao25 t219.length co25)) (fun _ h_ => h_.1)))).2.2); (case side2 => exact (Kd.V_reads' HO_214000.out).2.1); (case side3 => exact (Kd.V_reads' (e := 23) (base := w.heap.size) (n := x214000_1.length) (c := co23) (by (with_reducible repeat (first | apply Kd.V_alloc | apply Kd.V_drewN | apply Kd.V_drew)); exact (Kd.V_mono (Kd.V_far (p := ⟨gb218, 0, none⟩) (Kd.V_mono HO_214000.out (fun k_ hk => (⟨hk, hk.1.2.2.2.2⟩ : _ ∧ k_ ≠ gb218))) (fun _ hk => hk.2) (.slice Ao25 t219.length co25)) (fun _ h_ => h_.1)))).2.2); (case side4 => exact (Kd.V_reads' HO_214000.out).2.1); rintro e w28 ⟨v223, rfl, ho0, hb⟩; refine ⟨_, rfl, ?_⟩; have n0_ := Aside0.mk (Kd.V_elder' (by (with_reducible repeat (first | apply Kd.V_alloc | apply Kd.V_drewN | apply Kd.V_drew)); exact (Kd.V_mono (Kd.V_far (p := ⟨gb218, 0, none⟩) (Kd.V_mono HO_214000.out (fun k_ hk => (⟨hk, hk.1.2.2.2.2⟩ : _ ∧ k_ ≠ gb218))) (fun _ hk => hk.2) (.slice Ao25 t219.length co25)) (fun _ h_ => h_.1))) (Kd.R_base ho0) hb); have n1_ := Aside0.mk (Kd.R_elder' (by (with_reducible repeat (first | apply Kd.R_alloc | apply Kd.R_drewN | apply Kd.R_drew)); exact (Kd.R_mono (Kd.R_far (p := ⟨gb218, 0, none⟩) (Kd.R_types HO_219000.out BK218.out (by decide)) (fun _ hk => hk.2) (.slice Ao25 t219.length co25)) (fun _ h_ => h_.1))) (Kd.R_base ho0) hb); have n2_ := Aside0.mk (Kd.R_elder' (by (with_reducible repeat (first | apply Kd.R_alloc | apply Kd.R_drewN | apply Kd.R_drew)); exact (Kd.R_mono (Kd.R_far (p := ⟨gb218, 0, none⟩) (Kd.R_types HO221.out BK218.out (by decide)) (fun _ hk => hk.2) (.slice Ao25 t219.length co25)) (fun _ h_ => h_.1))) (Kd.R_base ho0) hb); have n3_ := Aside0.mk (Kd.R_lower (Kd.R_new' (Kd.R_new' (Kd.R_newM (M := fun k_ => (w.heap.size ≤ k_)) ho0 (below_size (by repeat (first | (with_reducible first | exact HB.out | apply below_alloc | apply pw_below_drewN | apply below_drew1 | refine below_set ?_ GE213.out | refine below_set ?_ GE214.out | refine below_set ?_ GE218.out) | exact HB.out))) (fun k_ h_ => h_)) (Kd.R_lt (by (with_reducible repeat (first | apply Kd.R_alloc | apply Kd.R_drewN | apply Kd.R_drew)); exact (Kd.R_mono (Kd.R_far (p := ⟨gb218, 0, none⟩) (Kd.R_types HO_219000.out BK218.out (by decide)) (fun _ hk => hk.2) (.slice Ao25 t219.length co25)) (fun _ h_ => h_.1))))) (Kd.R_lt (by (with_reducible repeat (first | apply Kd.R_alloc | apply Kd.R_drewN | apply Kd.R_drew)); exact (Kd.R_mono (Kd.R_far (p := ⟨gb218, 0, none⟩) (Kd.R_types HO221.out BK218.out (by decide)) (fun _ hk => hk.2) (.slice Ao25 t219.length co25)) (fun _ h_ => h_.1))))) (below_size (by repeat (first | (with_reducible first | exact HB.out | apply below_alloc | apply pw_below_drewN | apply below_drew1 | refine below_set ?_ GE213.out | refine below_set ?_ GE214.out | refine below_set ?_ GE218.out) | exact HB.out)))); have n4_ := Aside0.mk (blk_below (g := gb213) (o := .cells #[.slice Ao23 x214000_1.length co23] 25 (0, 0)) (by (with_reducible repeat (first | refine blk_drewN ?_ _ | refine blk_drew ?_ | refine blk_alloc ?_ _)); refine blk_far ?_ NB213_218.out _; (with_reducible repeat (first | refine blk_drewN ?_ _ | refine blk_drew ?_ | refine blk_alloc ?_ _)); exact BK213.out) hb); have n5_ := Aside0.mk (blk_below (g := gb214) (o := .cells #[.slice none 0 0] 25 (0, 0)) (by (with_reducible repeat (first | refine blk_drewN ?_ _ | refine blk_drew ?_ | refine blk_alloc ?_ _)); refine blk_far ?_ NB214_218.out _; (with_reducible repeat (first | refine blk_drewN ?_ _ | refine blk_drew ?_ | refine blk_alloc ?_ _)); exact BK214.out) hb); have n6_ := Aside0.mk (blk_below (g := gb218) (o := .cells #[.slice Ao25 t219.length co25] 25 (0, 0)) (by (with_reducible repeat (first | refine blk_drewN ?_ _ | refine blk_drew ?_ | refine blk_alloc ?_ _)); refine blk_put (cs := #[.slice Ao22 x219000_1.length co22]) ?_ 0 _ rfl; (with_reducible repeat (first | refine blk_drewN ?_ _ | refine blk_drew ?_ | refine blk_alloc ?_ _)); exact BK218.out) hb); have n7_ := Aside0.mk (below_step (by repeat (first | (with_reducible first | exact HB.out | apply below_alloc | apply pw_below_drewN | apply below_drew1 | refine below_set ?_ GE213.out | refine below_set ?_ GE214.out | refine below_set ?_ GE218.out) | exact HB.out)) hb); clear HO_214000; clear HO_219000; clear HO221; clear BK213; clear BK214; clear BK218; clear HB; have HO_214000 := n0_; have HO_219000 := n1_; have HO221 := n2_; have HO224 := n3_; have BK213 := n4_; have BK214 := n5_; have BK218 := n6_; have HB := n7_; clear n0_ n1_ n2_ n3_ n4_ n5_ n6_ n7_; (try clear hb); (try clear hb2); (try clear hk); (try clear hi); (try clear ho0); obtain ⟨Ao29, co29, eo29⟩ := Kd.R_slice HO224.out; subst eo29; have hcz30_0 : w28.cell? ⟨gb213, 0, none⟩ = some (.slice Ao23 x214000_1.length co23) := (blk_cell BK213.out 0).trans rfl; have hfz30_0 := blk_frozen BK213.out 0))
            go_roundg k1
            case measure => have := HK1.out; omega
            case rel => exact ⟨(x1_1 / 2), (t222), (t219), (.slice Ao29 t222.length co29), (.slice Ao25 t219.length co25), (by first | rfl | (simp; done) | (simp [*]; done)), H', ⟨by have := HK1.out; omega⟩, ⟨Kd.V_mono (Kd.R_V (by (with_reducible repeat (first | apply Kd.R_alloc | apply Kd.R_drewN | apply Kd.R_drew)); exact Kd.R_mono (Kd.R_far (p := ⟨gb213, 0, none⟩) (Kd.R_types (Kd.R_types (Kd.R_types (Kd.R_types HO224.out BK213.out (by decide)) BK214.out (by decide)) BK218.out (by decide)) BK213.out (by decide)) (fun _ hk => hk.2) (.slice Ao29 t222.length co29)) (fun _ hk => (And.intro hk.1.1.1.1.1.1.1 (And.intro hk.1.1.1.1.2 (And.intro hk.1.1.1.2 (And.intro hk.1.1.2 hk.1.2))))))) (fun k_ hk => by first | exact ⟨(.inr (hk.1)), hk.2⟩ | exact (.inr (hk)))⟩, ⟨by (with_reducible repeat (first | apply Kd.R_alloc | apply Kd.R_drewN | apply Kd.R_drew)); exact Kd.R_mono (Kd.R_far (p := ⟨gb213, 0, none⟩) (Kd.R_types HO221.out BK213.out (by decide)) (fun _ hk => hk.2) (.slice Ao29 t222.length co29)) (fun _ hk => hk.1.1.1.1)⟩, ⟨by (with_reducible repeat (first | refine blk_drewN ?_ _ | refine blk_drew ?_ | refine blk_alloc ?_ _)); refine blk_put (cs := #[.slice Ao23 x214000_1.length co23]) ?_ 0 _ rfl; (with_reducible repeat (first | refine blk_drewN ?_ _ | refine blk_drew ?_ | refine blk_alloc ?_ _)); exact BK213.out⟩, ⟨by (with_reducible repeat (first | refine blk_drewN ?_ _ | refine blk_drew ?_ | refine blk_alloc ?_ _)); refine blk_far ?_ NB214_213.out _; (with_reducible repeat (first | refine blk_drewN ?_ _ | refine blk_drew ?_ | refine blk_alloc ?_ _)); exact BK214.out⟩, ⟨by (with_reducible repeat (first | refine blk_drewN ?_ _ | refine blk_drew ?_ | refine blk_alloc ?_ _)); refine blk_far ?_ NB218_213.out _; (with_reducible repeat (first | refine blk_drewN ?_ _ | refine blk_drew ?_ | refine blk_alloc ?_ _)); exact BK218.out⟩, ⟨by repeat (first | (with_reducible first | exact HB.out | apply below_alloc | apply pw_below_drewN | apply below_drew1 | refine below_set ?_ GE213.out | refine below_set ?_ GE214.out | refine below_set ?_ GE218.out) | exact HB.out)⟩⟩
          · rw [if_neg c15] at H
            have c15b0 : decide (1 < x1_1) = false := decide_eq_false c15
            clear c15
            have H' := Aside0.mk H
            clear H
            have hnb31 := NB218_213.out
            have hnc31 := NB213_218.out
            have hnb32 := NB218_214.out
            have hnc32 := NB214_218.out
            have hcz33_0 : wr.cell? ⟨gb218, 0, none⟩ = some (u219000) := (blk_cell BK218.out 0).trans rfl
            have hfz33_0 := blk_frozen BK218.out 0
            have hnb34 := NB213_214.out
            have hnc34 := NB214_213.out
            have hcz35_0 : wr.cell? ⟨gb213, 0, none⟩ = some (u214000) := (blk_cell BK213.out 0).trans rfl
            have hfz35_0 := blk_frozen BK213.out 0
            obtain ⟨Ao36, co36, eo36⟩ := Kd.R_slice HO_219000.out
            subst eo36
            obtain ⟨Ao37, co37, eo37⟩ := Kd.V_slice HO_214000.out
            subst eo37
            go_wp2_with (first | ((with_reducible refine gate_callee (f := 24) rfl ?_); refine goesL_ (some 16) rfl rfl Try.func24 (by kernel_rfl) rfl #[.agg #[.slice Ao36 x219000_1.length co36], .agg #[.slice Ao37 x214000_1.length co37]] rfl (by (try simp only [List.map_toArray, List.map_cons, List.map_nil]); first | done | rfl | (simp only [List.length_drop, List.length_take]; rfl)) ?_; (with_reducible refine (times_Mul.calls k1 _ _ x219000_1 _ _ x214000_1 t219 _ ?side1 ?side2 ?side3 ?side4 A14.out).mono ?_); (case side1 => repeat (first | exact (Kd.R_reads' HO_219000.out).2.2 | (with_reducible refine Kd.C_alloc ?_ _) | (with_reducible refine Kd.C_drewN ?_ _) | (with_reducible refine Kd.C_drew ?_))); (case side2 => exact (Kd.R_reads' HO_219000.out).2.1); (case side3 => repeat (first | exact (Kd.V_reads' HO_214000.out).2.2 | (with_reducible refine Kd.C_alloc ?_ _) | (with_reducible refine Kd.C_drewN ?_ _) | (with_reducible refine Kd.C_drew ?_))); (case side4 => exact (Kd.V_reads' HO_214000.out).2.1); rintro e w38 ⟨v220, rfl, ho0, hb⟩; refine ⟨_, rfl, ?_⟩; have n0_ := Aside0.mk (Kd.V_elder' (by (with_reducible repeat (first | apply Kd.V_alloc | apply Kd.V_drewN | apply Kd.V_drew)); exact HO_214000.out) (Kd.R_base ho0) hb); have n1_ := Aside0.mk (Kd.R_elder' (by (with_reducible repeat (first | apply Kd.R_alloc | apply Kd.R_drewN | apply Kd.R_drew)); exact HO_219000.out) (Kd.R_base ho0) hb); have n2_ := Aside0.mk (Kd.R_lower (Kd.R_new' (Kd.R_newM (M := fun k_ => (w.heap.size ≤ k_)) ho0 (below_size (by repeat (first | (with_reducible first | exact HB.out | apply below_alloc | apply pw_below_drewN | apply below_drew1 | refine below_set ?_ GE213.out | refine below_set ?_ GE214.out | refine below_set ?_ GE218.out) | exact HB.out))) (fun k_ h_ => h_)) (Kd.R_lt (by (with_reducible repeat (first | apply Kd.R_alloc | apply Kd.R_drewN | apply Kd.R_drew)); exact HO_219000.out))) (below_size (by repeat (first | (with_reducible first | exact HB.out | apply below_alloc | apply pw_below_drewN | apply below_drew1 | refine below_set ?_ GE213.out | refine below_set ?_ GE214.out | refine below_set ?_ GE218.out) | exact HB.out)))); have n3_ := Aside0.mk (blk_below (g := gb213) (o := .cells #[.slice Ao37 x214000_1.length co37] 25 (0, 0)) (by (with_reducible repeat (first | refine blk_drewN ?_ _ | refine blk_drew ?_ | refine blk_alloc ?_ _)); exact BK213.out) hb); have n4_ := Aside0.mk (blk_below (g := gb214) (o := .cells #[.slice none 0 0] 25 (0, 0)) (by (with_reducible repeat (first | refine blk_drewN ?_ _ | refine blk_drew ?_ | refine blk_alloc ?_ _)); exact BK214.out) hb); have n5_ := Aside0.mk (blk_below (g := gb218) (o := .cells #[.slice Ao36 x219000_1.length co36] 25 (0, 0)) (by (with_reducible repeat (first | refine blk_drewN ?_ _ | refine blk_drew ?_ | refine blk_alloc ?_ _)); exact BK218.out) hb); have n6_ := Aside0.mk (below_step (by repeat (first | (with_reducible first | exact HB.out | apply below_alloc | apply pw_below_drewN | apply below_drew1 | refine below_set ?_ GE213.out | refine below_set ?_ GE214.out | refine below_set ?_ GE218.out) | exact HB.out)) hb); clear HO_214000; clear HO_219000; clear BK213; clear BK214; clear BK218; clear HB; have HO_214000 := n0_; have HO_219000 := n1_; have HO221 := n2_; have BK213 := n3_; have BK214 := n4_; have BK218 := n5_; have HB := n6_; clear n0_ n1_ n2_ n3_ n4_ n5_ n6_; (try clear hb); (try clear hb2); (try clear hk); (try clear hi); (try clear ho0); obtain ⟨Ao39, co39, eo39⟩ := Kd.R_slice HO221.out; subst eo39; have hcz40_0 : w38.cell? ⟨gb218, 0, none⟩ = some (.slice Ao36 x219000_1.length co36) := (blk_cell BK218.out 0).trans rfl; have hfz40_0 := blk_frozen BK218.out 0))
            go_roundg k1
            case measure => have := HK1.out; omega
            case rel => exact ⟨(x1_1 / 2), (x214000_1), (t219), (.slice Ao37 x214000_1.length co37), (.slice Ao39 t219.length co39), (by first | rfl | (simp; done) | (simp [*]; done)), H', ⟨by have := HK1.out; omega⟩, ⟨by (with_reducible repeat (first | apply Kd.V_alloc | apply Kd.V_drewN | apply Kd.V_drew)); exact Kd.V_mono (Kd.V_far (p := ⟨gb218, 0, none⟩) (Kd.V_mono HO_214000.out (fun k_ hk => (⟨hk, hk.1.2.2.2.2⟩ : _ ∧ k_ ≠ gb218))) (fun _ hk => hk.2) (.slice Ao39 t219.length co39)) (fun _ hk => ⟨hk.1.1.1, ⟨hk.1.2, ⟨hk.1.1.2.2.1, ⟨hk.1.1.2.2.2.1, hk.1.1.2.2.2.2⟩⟩⟩⟩)⟩, ⟨by (with_reducible repeat (first | apply Kd.R_alloc | apply Kd.R_drewN | apply Kd.R_drew)); exact Kd.R_mono (Kd.R_far (p := ⟨gb218, 0, none⟩) (Kd.R_types HO221.out BK218.out (by decide)) (fun _ hk => hk.2) (.slice Ao39 t219.length co39)) (fun _ hk => hk.1.1.1)⟩, ⟨by (with_reducible repeat (first | refine blk_drewN ?_ _ | refine blk_drew ?_ | refine blk_alloc ?_ _)); refine blk_far ?_ NB213_218.out _; (with_reducible repeat (first | refine blk_drewN ?_ _ | refine blk_drew ?_ | refine blk_alloc ?_ _)); exact BK213.out⟩, ⟨by (with_reducible repeat (first | refine blk_drewN ?_ _ | refine blk_drew ?_ | refine blk_alloc ?_ _)); refine blk_far ?_ NB214_218.out _; (with_reducible repeat (first | refine blk_drewN ?_ _ | refine blk_drew ?_ | refine blk_alloc ?_ _)); exact BK214.out⟩, ⟨by (with_reducible repeat (first | refine blk_drewN ?_ _ | refine blk_drew ?_ | refine blk_alloc ?_ _)); refine blk_put (cs := #[.slice Ao36 x219000_1.length co36]) ?_ 0 _ rfl; (with_reducible repeat (first | refine blk_drewN ?_ _ | refine blk_drew ?_ | refine blk_alloc ?_ _)); exact BK218.out⟩, ⟨by repeat (first | (with_reducible first | exact HB.out | apply below_alloc | apply pw_below_drewN | apply below_drew1 | refine below_set ?_ GE213.out | refine below_set ?_ GE214.out | refine below_set ?_ GE218.out) | exact HB.out)⟩⟩
        · rw [if_neg c13] at H
          have c13b0 : ((Go.bits .and .i64 x1_1 1) == 1) = false := beq_eq_false_iff_ne.mpr c13
          have c13b1 : ((Go.bits .and .i64 x1_1 1) != 1) = true := bne_iff_ne.mpr c13
          by_cases c41 : x1_1 > 1
          · rw [if_pos c41] at H
            have c41b0 : decide (1 < x1_1) = true := decide_eq_true c41
            clear c41
            replace H := Option.bind_eq_some_iff.mp H
            obtain ⟨t225, A420, H⟩ := H
            replace H : (times_Pow.l0 k1 (x1_1 / 2) t225 x219000_1) = some r := H
            have A42 := Aside0.mk A420
            clear A420
            have H' := Aside0.mk H
            clear H
            have hnb43 := NB213_214.out
            have hnc43 := NB214_213.out
            have hnb44 := NB213_218.out
            have hnc44 := NB218_213.out
            have hcz45_0 : wr.cell? ⟨gb213, 0, none⟩ = some (u214000) := (blk_cell BK213.out 0).trans rfl
            have hfz45_0 := blk_frozen BK213.out 0
            obtain ⟨Ao46, co46, eo46⟩ := Kd.V_slice HO_214000.out
            subst eo46
            go_wp2_with (first | ((with_reducible refine gate_callee (f := 24) rfl ?_); refine goesL_ (some 21) rfl rfl Try.func24 (by kernel_rfl) rfl #[.agg #[.slice Ao46 x214000_1.length co46], .agg #[.slice Ao46 x214000_1.length co46]] rfl (by (try simp only [List.map_toArray, List.map_cons, List.map_nil]); first | done | rfl | (simp only [List.length_drop, List.length_take]; rfl)) ?_; (with_reducible refine (times_Mul.calls k1 _ _ x214000_1 _ _ x214000_1 t225 _ ?side1 ?side2 ?side3 ?side4 A42.out).mono ?_); (case side1 => repeat (first | exact (Kd.V_reads' HO_214000.out).2.2 | (with_reducible refine Kd.C_alloc ?_ _) | (with_reducible refine Kd.C_drewN ?_ _) | (with_reducible refine Kd.C_drew ?_))); (case side2 => exact (Kd.V_reads' HO_214000.out).2.1); (case side3 => repeat (first | exact (Kd.V_reads' HO_214000.out).2.2 | (with_reducible refine Kd.C_alloc ?_ _) | (with_reducible refine Kd.C_drewN ?_ _) | (with_reducible refine Kd.C_drew ?_))); (case side4 => exact (Kd.V_reads' HO_214000.out).2.1); rintro e w47 ⟨v226, rfl, ho0, hb⟩; refine ⟨_, rfl, ?_⟩; have n0_ := Aside0.mk (Kd.V_elder' (by (with_reducible repeat (first | apply Kd.V_alloc | apply Kd.V_drewN | apply Kd.V_drew)); exact HO_214000.out) (Kd.R_base ho0) hb); have n1_ := Aside0.mk (Kd.R_elder' (by (with_reducible repeat (first | apply Kd.R_alloc | apply Kd.R_drewN | apply Kd.R_drew)); exact HO_219000.out) (Kd.R_base ho0) hb); have n2_ := Aside0.mk (Kd.R_lower (Kd.R_new' (Kd.R_newM (M := fun k_ => (w.heap.size ≤ k_)) ho0 (below_size (by repeat (first | (with_reducible first | exact HB.out | apply below_alloc | apply pw_below_drewN | apply below_drew1 | refine below_set ?_ GE213.out | refine below_set ?_ GE214.out | refine below_set ?_ GE218.out) | exact HB.out))) (fun k_ h_ => h_)) (Kd.R_lt (by (with_reducible repeat (first | apply Kd.R_alloc | apply Kd.R_drewN | apply Kd.R_drew)); exact HO_219000.out))) (below_size (by repeat (first | (with_reducible first | exact HB.out | apply below_alloc | apply pw_below_drewN | apply below_drew1 | refine below_set ?_ GE213.out | refine below_set ?_ GE214.out | refine below_set ?_ GE218.out) | exact HB.out)))); have n3_ := Aside0.mk (blk_below (g := gb213) (o := .cells #[.slice Ao46 x214000_1.length co46] 25 (0, 0)) (by (with_reducible repeat (first | refine blk_drewN ?_ _ | refine blk_drew ?_ | refine blk_alloc ?_ _)); exact BK213.out) hb); have n4_ := Aside0.mk (blk_below (g := gb214) (o := .cells #[.slice none 0 0] 25 (0, 0)) (by (with_reducible repeat (first | refine blk_drewN ?_ _ | refine blk_drew ?_ | refine blk_alloc ?_ _)); exact BK214.out) hb); have n5_ := Aside0.mk (blk_below (g := gb218) (o := .cells #[u219000] 25 (0, 0)) (by (with_reducible repeat (first | refine blk_drewN ?_ _ | refine blk_drew ?_ | refine blk_alloc ?_ _)); exact BK218.out) hb); have n6_ := Aside0.mk (below_step (by repeat (first | (with_reducible first | exact HB.out | apply below_alloc | apply pw_below_drewN | apply below_drew1 | refine below_set ?_ GE213.out | refine below_set ?_ GE214.out | refine below_set ?_ GE218.out) | exact HB.out)) hb); clear HO_214000; clear HO_219000; clear BK213; clear BK214; clear BK218; clear HB; have HO_214000 := n0_; have HO_219000 := n1_; have HO227 := n2_; have BK213 := n3_; have BK214 := n4_; have BK218 := n5_; have HB := n6_; clear n0_ n1_ n2_ n3_ n4_ n5_ n6_; (try clear hb); (try clear hb2); (try clear hk); (try clear hi); (try clear ho0); obtain ⟨Ao48, co48, eo48⟩ := Kd.R_slice HO227.out; subst eo48; have hcz49_0 : w47.cell? ⟨gb213, 0, none⟩ = some (.slice Ao46 x214000_1.length co46) := (blk_cell BK213.out 0).trans rfl; have hfz49_0 := blk_frozen BK213.out 0))
            go_roundg k1
            case measure => have := HK1.out; omega
            case rel => exact ⟨(x1_1 / 2), (t225), (x219000_1), (.slice Ao48 t225.length co48), (u219000), (by first | rfl | (simp; done) | (simp [*]; done)), H', ⟨by have := HK1.out; omega⟩, ⟨Kd.V_mono (Kd.R_V (by (with_reducible repeat (first | apply Kd.R_alloc | apply Kd.R_drewN | apply Kd.R_drew)); exact Kd.R_mono (Kd.R_far (p := ⟨gb213, 0, none⟩) (Kd.R_types (Kd.R_types (Kd.R_types (Kd.R_types HO227.out BK213.out (by decide)) BK214.out (by decide)) BK218.out (by decide)) BK213.out (by decide)) (fun _ hk => hk.2) (.slice Ao48 t225.length co48)) (fun _ hk => (And.intro hk.1.1.1.1.1.1 (And.intro hk.1.1.1.1.2 (And.intro hk.1.1.1.2 (And.intro hk.1.1.2 hk.1.2))))))) (fun k_ hk => by first | exact ⟨(.inr (hk.1)), hk.2⟩ | exact (.inr (hk)))⟩, ⟨by (with_reducible repeat (first | apply Kd.R_alloc | apply Kd.R_drewN | apply Kd.R_drew)); exact Kd.R_mono (Kd.R_far (p := ⟨gb213, 0, none⟩) (Kd.R_types HO_219000.out BK213.out (by decide)) (fun _ hk => hk.2) (.slice Ao48 t225.length co48)) (fun _ hk => hk.1.1)⟩, ⟨by (with_reducible repeat (first | refine blk_drewN ?_ _ | refine blk_drew ?_ | refine blk_alloc ?_ _)); refine blk_put (cs := #[.slice Ao46 x214000_1.length co46]) ?_ 0 _ rfl; (with_reducible repeat (first | refine blk_drewN ?_ _ | refine blk_drew ?_ | refine blk_alloc ?_ _)); exact BK213.out⟩, ⟨by (with_reducible repeat (first | refine blk_drewN ?_ _ | refine blk_drew ?_ | refine blk_alloc ?_ _)); refine blk_far ?_ NB214_213.out _; (with_reducible repeat (first | refine blk_drewN ?_ _ | refine blk_drew ?_ | refine blk_alloc ?_ _)); exact BK214.out⟩, ⟨by (with_reducible repeat (first | refine blk_drewN ?_ _ | refine blk_drew ?_ | refine blk_alloc ?_ _)); refine blk_far ?_ NB218_213.out _; (with_reducible repeat (first | refine blk_drewN ?_ _ | refine blk_drew ?_ | refine blk_alloc ?_ _)); exact BK218.out⟩, ⟨by repeat (first | (with_reducible first | exact HB.out | apply below_alloc | apply pw_below_drewN | apply below_drew1 | refine below_set ?_ GE213.out | refine below_set ?_ GE214.out | refine below_set ?_ GE218.out) | exact HB.out)⟩⟩
          · rw [if_neg c41] at H
            have c41b0 : decide (1 < x1_1) = false := decide_eq_false c41
            clear c41
            have H' := Aside0.mk H
            clear H
            go_wp2
            go_roundg k1
            case measure => have := HK1.out; omega
            case rel => exact ⟨(x1_1 / 2), (x214000_1), (x219000_1), (u214000), (u219000), (by first | rfl | (simp; done) | (simp [*]; done)), H', ⟨by have := HK1.out; omega⟩, ⟨by (with_reducible repeat (first | apply Kd.V_alloc | apply Kd.V_drewN | apply Kd.V_drew)); exact HO_214000.out⟩, ⟨by (with_reducible repeat (first | apply Kd.R_alloc | apply Kd.R_drewN | apply Kd.R_drew)); exact HO_219000.out⟩, ⟨by (with_reducible repeat (first | refine blk_drewN ?_ _ | refine blk_drew ?_ | refine blk_alloc ?_ _)); exact BK213.out⟩, ⟨by (with_reducible repeat (first | refine blk_drewN ?_ _ | refine blk_drew ?_ | refine blk_alloc ?_ _)); exact BK214.out⟩, ⟨by (with_reducible repeat (first | refine blk_drewN ?_ _ | refine blk_drew ?_ | refine blk_alloc ?_ _)); exact BK218.out⟩, ⟨by repeat (first | (with_reducible first | exact HB.out | apply below_alloc | apply pw_below_drewN | apply below_drew1 | refine below_set ?_ GE213.out | refine below_set ?_ GE214.out | refine below_set ?_ GE218.out) | exact HB.out)⟩⟩
      · rw [if_neg c12] at H
        have c12b0 : decide (0 < x1_1) = false := decide_eq_false c12
        clear c12
        obtain rfl := Option.some.inj H
        have hnb50 := NB218_213.out
        have hnc50 := NB213_218.out
        have hnb51 := NB218_214.out
        have hnc51 := NB214_218.out
        have hcz52_0 : wr.cell? ⟨gb218, 0, none⟩ = some (u219000) := (blk_cell BK218.out 0).trans rfl
        have hfz52_0 := blk_frozen BK218.out 0
        obtain ⟨Ao53, co53, eo53⟩ := Kd.R_slice HO_219000.out
        subst eo53
        have hnb54 := NB214_213.out
        have hnc54 := NB213_214.out
        have hcz55_0 : wr.cell? ⟨gb214, 0, none⟩ = some (.slice none 0 0) := (blk_cell BK214.out 0).trans rfl
        have hfz55_0 := blk_frozen BK214.out 0
        go_wp2
        refine bodyPost_ret (results_cell_row rfl _ _ gb214 25 #[.slice Ao53 x219000_1.length co53] (0, 0) _ rfl (by (with_reducible repeat (first | refine blk_drewN ?_ _ | refine blk_drew ?_ | refine blk_alloc ?_ _)); refine blk_put (cs := #[.slice none 0 0]) ?_ 0 _ rfl; (with_reducible repeat (first | refine blk_drewN ?_ _ | refine blk_drew ?_ | refine blk_alloc ?_ _)); exact BK214.out) Try.underlying25 rfl (by kernel_rfl)) rfl ?_
        exact ⟨_, by first | rfl | (simp [errW_none, errW_some] <;> rfl) | (simp [*, errW_none, errW_some] <;> rfl), by (with_reducible repeat (first | apply Kd.R_alloc | apply Kd.R_drewN | apply Kd.R_drew)); exact Kd.R_mono (Kd.R_far (p := ⟨gb214, 0, none⟩) (Kd.R_types HO_219000.out BK214.out (by decide)) (fun _ hk => hk.2) (.slice Ao53 x219000_1.length co53)) (fun _ hk => hk.1), by repeat (first | (with_reducible first | exact HB.out | apply below_alloc | apply pw_below_drewN | apply below_drew1 | refine below_set ?_ GE213.out | refine below_set ?_ GE214.out | refine below_set ?_ GE218.out) | exact HB.out)⟩

end Go.Proofs.Ytcepdndhkidehaa.PA

namespace Go.Proofs.Ytcepdndhkidehaa.PA
open Go.RowKit Go.Proofs.YtcepdndhkidehaaW.PrintWords Go.Proofs.YtcepdndhkidehaaW.PrintLast Go.Proofs.YtcepdndhkidehaaW.PrintMore
attribute [local go_sem] max2_int min2_int max_two min_two max_three min_three max_four min_four   -- for this text's walks alone
set_option linter.unusedVariables false
set_option linter.unusedSimpArgs false

/-! ### times_All: function 25 -/
def times_All.l0 : Nat → List (S25) → Int → Int → List Int → Option (List Int)
  | 0, _, _, _, _ => none
  | k + 1, x7, x8, x9, x208000 => if x9 < x8 then (if 0 ≤ x9 then (if x9 < (x7.length : Int) then ((times_Mul.f k x208000 ((rd_T25 x7 x9).f0)).bind fun t210 => (times_All.l0 k x7 x8 (wrap64 (x9 + 1)) t210)) else (none)) else (none)) else (some x208000)
def times_All.f (k : Nat) (l0 : List (S25)) : Option (List Int) := (nat_Of.f k 1).bind fun t204 => (times_All.l0 k l0 (l0.length : Int) 0 t204)
theorem times_All.mono_l : ∀ k, (∀ y0 y1 y2 y3, LeO (times_All.l0 k y0 y1 y2 y3) (times_All.l0 (k + 1) y0 y1 y2 y3))
  | 0 => fun _ _ _ _ r h => by simp [times_All.l0] at h
  | k + 1 => by
    have ih0 := times_All.mono_l k
    · intro y0 y1 y2 y3
      unfold times_All.l0
      repeat' first
      | (with_reducible exact ih0 _ _ _ _)
      | (with_reducible exact nat_Of.mono _ _)
      | (with_reducible exact times_Mul.mono _ _ _)
      | (with_reducible exact LeO.refl _)
      | (with_reducible exact LeO.none _)
      | (with_reducible refine LeO.ite ?_ ?_)
      | (with_reducible refine LeO.bind ?_ (fun _ => ?_))
      | exact ih0 _ _ _ _
      | exact nat_Of.mono _ _
      | exact times_Mul.mono _ _ _
      | exact LeO.none _
      | refine LeO.ite ?_ ?_
      | refine LeO.bind ?_ (fun _ => ?_)
theorem times_All.mono : ∀ a0 k, LeO (times_All.f k a0) (times_All.f (k + 1) a0) := by
  intro a0 k
  have ih0 := times_All.mono_l k
  unfold times_All.f
  repeat' first
      | (with_reducible exact ih0 _ _ _ _)
      | (with_reducible exact nat_Of.mono _ _)
      | (with_reducible exact times_Mul.mono _ _ _)
      | (with_reducible exact LeO.refl _)
      | (with_reducible exact LeO.none _)
      | (with_reducible refine LeO.ite ?_ ?_)
      | (with_reducible refine LeO.bind ?_ (fun _ => ?_))
      | exact ih0 _ _ _ _
      | exact nat_Of.mono _ _
      | exact times_Mul.mono _ _ _
      | exact LeO.none _
      | refine LeO.ite ?_ ?_
      | refine LeO.bind ?_ (fun _ => ?_)
set_option maxHeartbeats 8000000 in
set_option maxRecDepth 100000 in
theorem times_All.calls (k : Nat) (A0 : Option Addr) (c0 : Nat) (l0 : List (S25)) (r : List Int) (w : World) (hr0 : Kd.C k25 w A0 l0.length l0) (hc0 : l0.length ≤ c0) (h : times_All.f k l0 = some r) :
    Calls Try.prog 25 #[.slice A0 l0.length c0] w fun e w' => ∃ v0_ : Value, e = .returned (.agg #[v0_]) ∧ Kd.R (Kd.int .u32) 23 w' w.heap.size (fun _ => True) v0_ r ∧ Below w.heap.size w w' := by
  have hu25 := Try.underlying25
  have HR0 := Aside0.mk hr0
  have HC0 := Aside0.mk hc0
  clear hr0 hc0
  have HB := Aside0.mk (Below.refl w.heap.size w)
  have H : ((nat_Of.f k 1).bind fun t204 => (times_All.l0 k l0 (l0.length : Int) 0 t204)) = some r := h
  clear h
  replace H := Option.bind_eq_some_iff.mp H
  obtain ⟨t204, A20, H⟩ := H
  replace H : (times_All.l0 k l0 (l0.length : Int) 0 t204) = some r := H
  have A2 := Aside0.mk A20
  clear A20
  have H' := Aside0.mk H
  clear H
  go_enter Try.func25, Try.ntmps25
  go_wp2_with (first | ((with_reducible refine gate_dst (N := 2) rfl ?_); refine box_event ?hg (N := 2) ?hd (cs := #[.slice none 0 0]) (t := 25) ?hr ?_; (case hd => rfl); (case hg => rfl); (case hr => first | (go_simp; done) | (go_simp; rfl)); intro gb203 hg w3 hbox hb; have n0_ := Aside0.mk (below_step (by repeat (first | (with_reducible first | exact HB.out | apply below_alloc | apply pw_below_drewN | apply below_drew1) | exact HB.out)) hb); have n1_ := Aside0.mk (hbox); have n2_ := Aside0.mk ((by rw [hg]; exact (below_size (by repeat (first | (with_reducible first | exact HB.out | apply below_alloc | apply pw_below_drewN | apply below_drew1) | exact HB.out))) : w.heap.size ≤ gb203)); have n3_ := Aside0.mk ((by rw [hg]; exact (below_size (by repeat (first | (with_reducible first | exact HB.out | apply below_alloc | apply pw_below_drewN | apply below_drew1) | exact HB.out))) : w.heap.size ≤ gb203)); clear HB; have HB := n0_; have BK203 := n1_; have GW203 := n2_; have GE203 := n3_; clear n0_ n1_ n2_ n3_; clear hb hbox hg) | ((with_reducible refine gate_callee (f := 26) rfl ?_); refine goesL_ (some 6) rfl rfl Try.func26 (by kernel_rfl) rfl #[.int .u64 1] rfl (by (try simp only [List.map_toArray, List.map_cons, List.map_nil]); first | done | rfl | (simp only [List.length_drop, List.length_take]; rfl)) ?_; (with_reducible refine (nat_Of.calls k 1 t204 _ A2.out).mono ?_); rintro e w4 ⟨v205, rfl, ho0, hb⟩; refine ⟨_, rfl, ?_⟩; have n0_ := Aside0.mk (Kd.R_lower ho0 (below_size (by repeat (first | (with_reducible first | exact HB.out | apply below_alloc | apply pw_below_drewN | apply below_drew1 | refine below_set ?_ GE203.out) | exact HB.out)))); have n1_ := Aside0.mk (blk_below (g := gb203) (o := .cells #[.slice none 0 0] 25 (0, 0)) (by (with_reducible repeat (first | refine blk_drewN ?_ _ | refine blk_drew ?_ | refine blk_alloc ?_ _)); exact BK203.out) hb); have n2_ := Aside0.mk (below_step (by repeat (first | (with_reducible first | exact HB.out | apply below_alloc | apply pw_below_drewN | apply below_drew1 | refine below_set ?_ GE203.out) | exact HB.out)) hb); clear BK203; clear HB; have HO206 := n0_; have BK203 := n1_; have HB := n2_; clear n0_ n1_ n2_; (try clear hb); (try clear hb2); (try clear hk); (try clear hi); (try clear ho0)) | ((with_reducible refine gate_dst (N := 3) rfl ?_); refine box_event ?hg (N := 3) ?hd (cs := #[.slice none 0 0]) (t := 25) ?hr ?_; (case hd => rfl); (case hg => rfl); (case hr => first | (go_simp; done) | (go_simp; rfl)); intro gb207 hg w5 hbox hb; have n0_ := Aside0.mk (Kd.R_below (by (with_reducible repeat (first | apply Kd.R_alloc | apply Kd.R_drewN | apply Kd.R_drew)); exact HO206.out) hb); have n1_ := Aside0.mk (blk_below (g := gb203) (o := .cells #[.slice none 0 0] 25 (0, 0)) (by (with_reducible repeat (first | refine blk_drewN ?_ _ | refine blk_drew ?_ | refine blk_alloc ?_ _)); exact BK203.out) hb); have n2_ := Aside0.mk (below_step (by repeat (first | (with_reducible first | exact HB.out | apply below_alloc | apply pw_below_drewN | apply below_drew1 | refine below_set ?_ GE203.out) | exact HB.out)) hb); have n3_ := Aside0.mk (hbox); have n4_ := Aside0.mk ((by rw [hg]; exact (below_size (by repeat (first | (with_reducible first | exact HB.out | apply below_alloc | apply pw_below_drewN | apply below_drew1 | refine below_set ?_ GE203.out) | exact HB.out))) : w.heap.size ≤ gb207)); have n5_ := Aside0.mk ((by rw [hg]; exact (below_size (by repeat (first | (with_reducible first | exact HB.out | apply below_alloc | apply pw_below_drewN | apply below_drew1 | refine below_set ?_ GE203.out) | exact HB.out))) : w.heap.size ≤ gb207)); have n6_ := Aside0.mk ((by rw [hg]; exact Nat.ne_of_lt (blk_lt (g := gb203) (o := .cells #[.slice none 0 0] 25 (0, 0)) (by (with_reducible repeat (first | refine blk_drewN ?_ _ | refine blk_drew ?_ | refine blk_alloc ?_ _)); exact BK203.out)) : gb203 ≠ gb207)); have n7_ := Aside0.mk ((by rw [hg]; exact Nat.ne_of_gt (blk_lt (g := gb203) (o := .cells #[.slice none 0 0] 25 (0, 0)) (by (with_reducible repeat (first | refine blk_drewN ?_ _ | refine blk_drew ?_ | refine blk_alloc ?_ _)); exact BK203.out)) : gb207 ≠ gb203)); clear HO206; clear BK203; clear HB; have HO206 := n0_; have BK203 := n1_; have HB := n2_; have BK207 := n3_; have GW207 := n4_; have GE207 := n5_; have NB203_207 := n6_; have NB207_203 := n7_; clear n0_ n1_ n2_ n3_ n4_ n5_ n6_ n7_; clear hb hbox hg; obtain ⟨Ao6, co6, eo6⟩ := Kd.R_slice HO206.out; subst eo6; have hnb7 := NB207_203.out; have hnc7 := NB203_207.out; have hcz8_0 : w5.cell? ⟨gb207, 0, none⟩ = some (.slice none 0 0) := (blk_cell BK207.out 0).trans rfl; have hfz8_0 := blk_frozen BK207.out 0))
  (try simp only [Act.put, List.setIfInBounds_toArray, List.set_cons_zero, List.set_cons_succ])
  go_loopg [9] k (fun kq v9 w' => ∃ (x9_1 : Int) (x208000_1 : List Int) (u208000 : Value), v9 = .int .i64 x9_1 ∧ Aside0 (times_All.l0 kq l0 (l0.length : Int) x9_1 x208000_1 = some r) ∧ Aside0 (kq ≤ k) ∧ Aside0 (Kd.R (Kd.int .u32) 23 w' w.heap.size (fun _ => True) u208000 x208000_1) ∧ Aside0 (w'.heap[gb203]? = some (.cells #[(.slice none 0 0)] 25 (0, 0))) ∧ Aside0 (w'.heap[gb207]? = some (.cells #[u208000] 25 (0, 0))) ∧ Aside0 (Below w.heap.size w w'))
  case atStart => exact ⟨(0), (t204), (.slice Ao6 t204.length co6), (by first | rfl | (simp; done) | (simp [*]; done)), H', ⟨Nat.le_refl _⟩, ⟨by (with_reducible repeat (first | apply Kd.R_alloc | apply Kd.R_drewN | apply Kd.R_drew)); exact Kd.R_mono (Kd.R_far (p := ⟨gb207, 0, none⟩) (Kd.R_types HO206.out BK207.out (by decide)) (fun _ hk => hk.2) (.slice Ao6 t204.length co6)) (fun _ hk => trivial)⟩, ⟨by (with_reducible repeat (first | refine blk_drewN ?_ _ | refine blk_drew ?_ | refine blk_alloc ?_ _)); refine blk_far ?_ NB203_207.out _; (with_reducible repeat (first | refine blk_drewN ?_ _ | refine blk_drew ?_ | refine blk_alloc ?_ _)); exact BK203.out⟩, ⟨by (with_reducible repeat (first | refine blk_drewN ?_ _ | refine blk_drew ?_ | refine blk_alloc ?_ _)); refine blk_put (cs := #[.slice none 0 0]) ?_ 0 _ rfl; (with_reducible repeat (first | refine blk_drewN ?_ _ | refine blk_drew ?_ | refine blk_alloc ?_ _)); exact BK207.out⟩, ⟨by repeat (first | (with_reducible first | exact HB.out | apply below_alloc | apply pw_below_drewN | apply below_drew1 | refine below_set ?_ GE203.out | refine below_set ?_ GE207.out) | exact HB.out)⟩⟩
  case round =>
    clear H'
    try clear c2
    try clear p2
    try clear c7
    try clear hcz8_0
    try clear hfz8_0
    obtain ⟨x9_1, x208000_1, u208000, rfl, HA, HK1, HO_208000, BK203, BK207, HB⟩ := hrel
    cases gk with
    | zero => exact absurd HA.out (by simp [times_All.l0])
    | succ k1 =>
      have H := HA.out
      clear HA
      simp only [times_All.l0] at H
      by_cases c9 : x9_1 < (l0.length : Int)
      · rw [if_pos c9] at H
        have c9b0 : decide (x9_1 < (l0.length : Int)) = true := decide_eq_true c9
        clear c9
        by_cases c10 : 0 ≤ x9_1
        · rw [if_pos c10] at H
          have c10b0 : decide (0 ≤ x9_1) = true := decide_eq_true c10
          clear c10
          by_cases c11 : x9_1 < (l0.length : Int)
          · rw [if_pos c11] at H
            have c11b0 : decide (x9_1 < (l0.length : Int)) = true := decide_eq_true c11
            clear c11
            replace H := Option.bind_eq_some_iff.mp H
            obtain ⟨t210, A120, H⟩ := H
            replace H : (times_All.l0 k1 l0 (l0.length : Int) (wrap64 (x9_1 + 1)) t210) = some r := H
            have A12 := Aside0.mk A120
            clear A120
            have H' := Aside0.mk H
            clear H
            have p208 : 0 ≤ (x9_1 : Int) := of_decide_eq_true (by first | (with_reducible assumption) | assumption)
            have q208 : x9_1 < (l0.length : Int) := of_decide_eq_true (by first | (with_reducible assumption) | assumption)
            obtain ⟨ad208, A208_0, c208_0, e208, hx208_0, hl208_0, hi208_0⟩ := at_T25 HR0.out x9_1 p208 q208
            cases e208
            replace hx208_0 := (HB.out.cell (World.block_lt_of_cell? w _ hx208_0)).trans hx208_0
            have HR208_0 := Aside0.mk hi208_0
            have HC208_0 := Aside0.mk hl208_0
            clear hi208_0 hl208_0
            replace p208 := eq_true p208
            replace q208 := eq_true q208
            go_wp2_with (first | ((with_reducible refine gate_dst (N := 5) rfl ?_); refine box_event ?hg (N := 5) ?hd (cs := #[.slice none 0 0]) (t := 25) ?hr ?_; (case hd => rfl); (case hg => rfl); (case hr => first | (go_simp; done) | (go_simp; rfl)); intro gb209 hg w13 hbox hb; have n0_ := Aside0.mk (Kd.R_below (by (with_reducible repeat (first | apply Kd.R_alloc | apply Kd.R_drewN | apply Kd.R_drew)); exact HO_208000.out) hb); have n1_ := Aside0.mk (blk_below (g := gb203) (o := .cells #[.slice none 0 0] 25 (0, 0)) (by (with_reducible repeat (first | refine blk_drewN ?_ _ | refine blk_drew ?_ | refine blk_alloc ?_ _)); exact BK203.out) hb); have n2_ := Aside0.mk (blk_below (g := gb207) (o := .cells #[u208000] 25 (0, 0)) (by (with_reducible repeat (first | refine blk_drewN ?_ _ | refine blk_drew ?_ | refine blk_alloc ?_ _)); exact BK207.out) hb); have n3_ := Aside0.mk (below_step (by repeat (first | (with_reducible first | exact HB.out | apply below_alloc | apply pw_below_drewN | apply below_drew1 | refine below_set ?_ GE203.out | refine below_set ?_ GE207.out) | exact HB.out)) hb); have n4_ := Aside0.mk (hbox); have n5_ := Aside0.mk ((by rw [hg]; exact (below_size (by repeat (first | (with_reducible first | exact HB.out | apply below_alloc | apply pw_below_drewN | apply below_drew1 | refine below_set ?_ GE203.out | refine below_set ?_ GE207.out) | exact HB.out))) : w.heap.size ≤ gb209)); have n6_ := Aside0.mk ((by rw [hg]; exact (below_size (by repeat (first | (with_reducible first | exact HB.out | apply below_alloc | apply pw_below_drewN | apply below_drew1 | refine below_set ?_ GE203.out | refine below_set ?_ GE207.out) | exact HB.out))) : w.heap.size ≤ gb209)); have n7_ := Aside0.mk ((by rw [hg]; exact Nat.ne_of_lt (blk_lt (g := gb203) (o := .cells #[.slice none 0 0] 25 (0, 0)) (by (with_reducible repeat (first | refine blk_drewN ?_ _ | refine blk_drew ?_ | refine blk_alloc ?_ _)); exact BK203.out)) : gb203 ≠ gb209)); have n8_ := Aside0.mk ((by rw [hg]; exact Nat.ne_of_gt (blk_lt (g := gb203) (o := .cells #[.slice none 0 0] 25 (0, 0)) (by (with_reducible repeat (first | refine blk_drewN ?_ _ | refine blk_drew ?_ | refine blk_alloc ?_ _)); exact BK203.out)) : gb209 ≠ gb203)); have n9_ := Aside0.mk ((by rw [hg]; exact Nat.ne_of_lt (blk_lt (g := gb207) (o := .cells #[u208000] 25 (0, 0)) (by (with_reducible repeat (first | refine blk_drewN ?_ _ | refine blk_drew ?_ | refine blk_alloc ?_ _)); exact BK207.out)) : gb207 ≠ gb209)); have n10_ := Aside0.mk ((by rw [hg]; exact Nat.ne_of_gt (blk_lt (g := gb207) (o := .cells #[u208000] 25 (0, 0)) (by (with_reducible repeat (first | refine blk_drewN ?_ _ | refine blk_drew ?_ | refine blk_alloc ?_ _)); exact BK207.out)) : gb209 ≠ gb207)); clear HO_208000; clear BK203; clear BK207; clear HB; have HO_208000 := n0_; have BK203 := n1_; have BK207 := n2_; have HB := n3_; have BK209 := n4_; have GW209 := n5_; have GE209 := n6_; have NB203_209 := n7_; have NB209_203 := n8_; have NB207_209 := n9_; have NB209_207 := n10_; clear n0_ n1_ n2_ n3_ n4_ n5_ n6_ n7_ n8_ n9_ n10_; clear hb hbox hg; have hnb14 := NB209_203.out; have hnc14 := NB203_209.out; have hnb15 := NB209_207.out; have hnc15 := NB207_209.out; have hcz16_0 : w13.cell? ⟨gb209, 0, none⟩ = some (.slice none 0 0) := (blk_cell BK209.out 0).trans rfl; have hfz16_0 := blk_frozen BK209.out 0; have hnb17 := NB207_203.out; have hnc17 := NB203_207.out; have hcz18_0 : w13.cell? ⟨gb207, 0, none⟩ = some (u208000) := (blk_cell BK207.out 0).trans rfl; have hfz18_0 := blk_frozen BK207.out 0; obtain ⟨Ao19, co19, eo19⟩ := Kd.R_slice HO_208000.out; subst eo19) | ((with_reducible refine gate_callee (f := 24) rfl ?_); refine goesL_ (some 15) rfl rfl Try.func24 (by kernel_rfl) rfl #[.agg #[.slice Ao19 x208000_1.length co19], .agg #[.slice A208_0 ((rd_T25 l0 x9_1).f0).length c208_0]] rfl (by (try simp only [List.map_toArray, List.map_cons, List.map_nil]); first | done | rfl | (simp only [List.length_drop, List.length_take]; rfl)) ?_; (with_reducible refine (times_Mul.calls k1 _ _ x208000_1 _ _ ((rd_T25 l0 x9_1).f0) t210 _ ?side1 ?side2 ?side3 ?side4 A12.out).mono ?_); (case side1 => exact (Kd.R_reads' (e := 23) (base := w.heap.size) (n := x208000_1.length) (c := co19) (by (with_reducible repeat (first | apply Kd.R_alloc | apply Kd.R_drewN | apply Kd.R_drew)); exact (Kd.R_mono (Kd.R_far (p := ⟨gb209, 0, none⟩) (Kd.R_types HO_208000.out BK209.out (by decide)) (fun _ hk => hk.2) (.slice A208_0 ((rd_T25 l0 x9_1).f0).length c208_0)) (fun _ h_ => h_.1)))).2.2); (case side2 => exact (Kd.R_reads' HO_208000.out).2.1); (case side3 => exact Kd.C_below HR208_0.out (by repeat (first | (with_reducible first | exact HB.out | apply below_alloc | apply pw_below_drewN | apply below_drew1 | refine below_set ?_ GE203.out | refine below_set ?_ GE207.out | refine below_set ?_ GE209.out) | exact HB.out))); (case side4 => exact HC208_0.out); rintro e w20 ⟨v211, rfl, ho0, hb⟩; refine ⟨_, rfl, ?_⟩; have n0_ := Aside0.mk (Kd.R_elder' (by (with_reducible repeat (first | apply Kd.R_alloc | apply Kd.R_drewN | apply Kd.R_drew)); exact (Kd.R_mono (Kd.R_far (p := ⟨gb209, 0, none⟩) (Kd.R_types HO_208000.out BK209.out (by decide)) (fun _ hk => hk.2) (.slice A208_0 ((rd_T25 l0 x9_1).f0).length c208_0)) (fun _ h_ => h_.1))) (Kd.R_base ho0) hb); have n1_ := Aside0.mk (Kd.R_lower (Kd.R_new' ho0 (Kd.R_lt (by (with_reducible repeat (first | apply Kd.R_alloc | apply Kd.R_drewN | apply Kd.R_drew)); exact (Kd.R_mono (Kd.R_far (p := ⟨gb209, 0, none⟩) (Kd.R_types HO_208000.out BK209.out (by decide)) (fun _ hk => hk.2) (.slice A208_0 ((rd_T25 l0 x9_1).f0).length c208_0)) (fun _ h_ => h_.1))))) (below_size (by repeat (first | (with_reducible first | exact HB.out | apply below_alloc | apply pw_below_drewN | apply below_drew1 | refine below_set ?_ GE203.out | refine below_set ?_ GE207.out | refine below_set ?_ GE209.out) | exact HB.out)))); have n2_ := Aside0.mk (blk_below (g := gb203) (o := .cells #[.slice none 0 0] 25 (0, 0)) (by (with_reducible repeat (first | refine blk_drewN ?_ _ | refine blk_drew ?_ | refine blk_alloc ?_ _)); refine blk_far ?_ NB203_209.out _; (with_reducible repeat (first | refine blk_drewN ?_ _ | refine blk_drew ?_ | refine blk_alloc ?_ _)); exact BK203.out) hb); have n3_ := Aside0.mk (blk_below (g := gb207) (o := .cells #[.slice Ao19 x208000_1.length co19] 25 (0, 0)) (by (with_reducible repeat (first | refine blk_drewN ?_ _ | refine blk_drew ?_ | refine blk_alloc ?_ _)); refine blk_far ?_ NB207_209.out _; (with_reducible repeat (first | refine blk_drewN ?_ _ | refine blk_drew ?_ | refine blk_alloc ?_ _)); exact BK207.out) hb); have n4_ := Aside0.mk (blk_below (g := gb209) (o := .cells #[.slice A208_0 ((rd_T25 l0 x9_1).f0).length c208_0] 25 (0, 0)) (by (with_reducible repeat (first | refine blk_drewN ?_ _ | refine blk_drew ?_ | refine blk_alloc ?_ _)); refine blk_put (cs := #[.slice none 0 0]) ?_ 0 _ rfl; (with_reducible repeat (first | refine blk_drewN ?_ _ | refine blk_drew ?_ | refine blk_alloc ?_ _)); exact BK209.out) hb); have n5_ := Aside0.mk (below_step (by repeat (first | (with_reducible first | exact HB.out | apply below_alloc | apply pw_below_drewN | apply below_drew1 | refine below_set ?_ GE203.out | refine below_set ?_ GE207.out | refine below_set ?_ GE209.out) | exact HB.out)) hb); clear HO_208000; clear BK203; clear BK207; clear BK209; clear HB; have HO_208000 := n0_; have HO212 := n1_; have BK203 := n2_; have BK207 := n3_; have BK209 := n4_; have HB := n5_; clear n0_ n1_ n2_ n3_ n4_ n5_; (try clear hb); (try clear hb2); (try clear hk); (try clear hi); (try clear ho0); obtain ⟨Ao21, co21, eo21⟩ := Kd.R_slice HO212.out; subst eo21; have hcz22_0 : w20.cell? ⟨gb207, 0, none⟩ = some (.slice Ao19 x208000_1.length co19) := (blk_cell BK207.out 0).trans rfl; have hfz22_0 := blk_frozen BK207.out 0))
            go_roundg k1
            case measure => have := HK1.out; omega
            case rel => exact ⟨(wrap64 (x9_1 + 1)), (t210), (.slice Ao21 t210.length co21), (by first | rfl | (simp; done) | (simp [*]; done)), H', ⟨by have := HK1.out; omega⟩, ⟨by (with_reducible repeat (first | apply Kd.R_alloc | apply Kd.R_drewN | apply Kd.R_drew)); exact Kd.R_mono (Kd.R_far (p := ⟨gb207, 0, none⟩) (Kd.R_types HO212.out BK207.out (by decide)) (fun _ hk => hk.2) (.slice Ao21 t210.length co21)) (fun _ hk => trivial)⟩, ⟨by (with_reducible repeat (first | refine blk_drewN ?_ _ | refine blk_drew ?_ | refine blk_alloc ?_ _)); refine blk_far ?_ NB203_207.out _; (with_reducible repeat (first | refine blk_drewN ?_ _ | refine blk_drew ?_ | refine blk_alloc ?_ _)); exact BK203.out⟩, ⟨by (with_reducible repeat (first | refine blk_drewN ?_ _ | refine blk_drew ?_ | refine blk_alloc ?_ _)); refine blk_put (cs := #[.slice Ao19 x208000_1.length co19]) ?_ 0 _ rfl; (with_reducible repeat (first | refine blk_drewN ?_ _ | refine blk_drew ?_ | refine blk_alloc ?_ _)); exact BK207.out⟩, ⟨by repeat (first | (with_reducible first | exact HB.out | apply below_alloc | apply pw_below_drewN | apply below_drew1 | refine below_set ?_ GE203.out | refine below_set ?_ GE207.out | refine below_set ?_ GE209.out) | exact HB.out)⟩⟩
          · rw [if_neg c11] at H
            exact absurd H (by simp)
        · rw [if_neg c10] at H
          exact absurd H (by simp)
      · rw [if_neg c9] at H
        have c9b0 : decide (x9_1 < (l0.length : Int)) = false := decide_eq_false c9
        clear c9
        obtain rfl := Option.some.inj H
        have hnb23 := NB207_203.out
        have hnc23 := NB203_207.out
        have hcz24_0 : wr.cell? ⟨gb207, 0, none⟩ = some (u208000) := (blk_cell BK207.out 0).trans rfl
        have hfz24_0 := blk_frozen BK207.out 0
        obtain ⟨Ao25, co25, eo25⟩ := Kd.R_slice HO_208000.out
        subst eo25
        have hcz26_0 : wr.cell? ⟨gb203, 0, none⟩ = some (.slice none 0 0) := (blk_cell BK203.out 0).trans rfl
        have hfz26_0 := blk_frozen BK203.out 0
        go_wp2
        refine bodyPost_ret (results_cell_row rfl _ _ gb203 25 #[.slice Ao25 x208000_1.length co25] (0, 0) _ rfl (by (with_reducible repeat (first | refine blk_drewN ?_ _ | refine blk_drew ?_ | refine blk_alloc ?_ _)); refine blk_put (cs := #[.slice none 0 0]) ?_ 0 _ rfl; (with_reducible repeat (first | refine blk_drewN ?_ _ | refine blk_drew ?_ | refine blk_alloc ?_ _)); exact BK203.out) Try.underlying25 rfl (by kernel_rfl)) rfl ?_
        exact ⟨_, by first | rfl | (simp [errW_none, errW_some] <;> rfl) | (simp [*, errW_none, errW_some] <;> rfl), by (with_reducible repeat (first | apply Kd.R_alloc | apply Kd.R_drewN | apply Kd.R_drew)); exact Kd.R_mono (Kd.R_far (p := ⟨gb203, 0, none⟩) (Kd.R_types HO_208000.out BK203.out (by decide)) (fun _ hk => hk.2) (.slice Ao25 x208000_1.length co25)) (fun _ hk => trivial), by repeat (first | (with_reducible first | exact HB.out | apply below_alloc | apply pw_below_drewN | apply below_drew1 | refine below_set ?_ GE203.out | refine below_set ?_ GE207.out) | exact HB.out)⟩

end Go.Proofs.Ytcepdndhkidehaa.PA


namespace Go.Proofs.Ytcepdndhkidehaa.M
open Go.RowKit Go.Proofs.YtcepdndhkidehaaW.PrintWords Go.Proofs.YtcepdndhkidehaaW.PrintLast Go.Proofs.YtcepdndhkidehaaW.PrintMore Go.Proofs.Ytcepdndhkidehaa.PA
set_option linter.unusedVariables false
set_option linter.unusedSimpArgs false

/-! ### bit operations -/
theorem wrap_u64_nat {n : Nat} (h : n < 18446744073709551616) : IntKind.u64.wrap (n : Int) = (n : Int) := u64_id (by omega) (by omega)
theorem u32_def (x : Int) : IntKind.u32.wrap x = x % 4294967296 := by
  unfold IntKind.wrap
  simp [IntKind.signed, IntKind.bits]
theorem bits_or64 {a b : Nat} (ha : a < 18446744073709551616) (hb : b < 18446744073709551616) : Go.bits .or .u64 (a : Int) (b : Int) = ((a ||| b : Nat) : Int) := by
  unfold Go.bits
  have h1 : (BitVec.ofInt IntKind.u64.bits (a : Int)).toNat = a := by simp [IntKind.bits]; omega
  have h2 : (BitVec.ofInt IntKind.u64.bits (b : Int)).toNat = b := by simp [IntKind.bits]; omega
  simp only [BitVec.toNat_or, h1, h2]
  exact wrap_u64_nat (Nat.or_lt_two_pow (n := 64) ha hb)
theorem bits_and64 {a b : Nat} (ha : a < 18446744073709551616) (hb : b < 18446744073709551616) : Go.bits .and .u64 (a : Int) (b : Int) = ((a &&& b : Nat) : Int) := by
  unfold Go.bits
  have h1 : (BitVec.ofInt IntKind.u64.bits (a : Int)).toNat = a := by simp [IntKind.bits]; omega
  have h2 : (BitVec.ofInt IntKind.u64.bits (b : Int)).toNat = b := by simp [IntKind.bits]; omega
  simp only [BitVec.toNat_and, h1, h2]
  exact wrap_u64_nat (Nat.and_lt_two_pow (n := 64) a hb)
theorem bits_and_i64 {a b : Nat} (ha : a < 9223372036854775808) (hb : b < 9223372036854775808) : Go.bits .and .i64 (a : Int) (b : Int) = ((a &&& b : Nat) : Int) := by
  unfold Go.bits
  have h1 : (BitVec.ofInt IntKind.i64.bits (a : Int)).toNat = a := by simp [IntKind.bits]; omega
  have h2 : (BitVec.ofInt IntKind.i64.bits (b : Int)).toNat = b := by simp [IntKind.bits]; omega
  simp only [BitVec.toNat_and, h1, h2]
  have h3 : a &&& b < 2 ^ 63 := Nat.and_lt_two_pow (n := 63) a hb
  exact (i64_w _).trans (wrap_id (by omega) (by omega))
theorem and_one {a : Nat} (ha : a < 9223372036854775808) : Go.bits .and .i64 (a : Int) 1 = ((a % 2 : Nat) : Int) := by
  have := bits_and_i64 ha (b := 1) (by decide)
  rw [Nat.and_one_is_mod] at this
  exact this
theorem bits_and32 {a b : Nat} (ha : a < 4294967296) (hb : b < 4294967296) : Go.bits .and .u32 (a : Int) (b : Int) = ((a &&& b : Nat) : Int) := by
  unfold Go.bits
  have h1 : (BitVec.ofInt IntKind.u32.bits (a : Int)).toNat = a := by simp [IntKind.bits]; omega
  have h2 : (BitVec.ofInt IntKind.u32.bits (b : Int)).toNat = b := by simp [IntKind.bits]; omega
  have h3 : a &&& b < 2 ^ 32 := Nat.and_lt_two_pow (n := 32) a hb
  simp only [BitVec.toNat_and, h1, h2]
  exact (u32_def _).trans (Int.emod_eq_of_lt (by omega) (by omega))
theorem bits_or32 {a b : Nat} (ha : a < 4294967296) (hb : b < 4294967296) : Go.bits .or .u32 (a : Int) (b : Int) = ((a ||| b : Nat) : Int) := by
  unfold Go.bits
  have h1 : (BitVec.ofInt IntKind.u32.bits (a : Int)).toNat = a := by simp [IntKind.bits]; omega
  have h2 : (BitVec.ofInt IntKind.u32.bits (b : Int)).toNat = b := by simp [IntKind.bits]; omega
  have h3 : a ||| b < 2 ^ 32 := Nat.or_lt_two_pow (n := 32) ha hb
  simp only [BitVec.toNat_or, h1, h2]
  exact (u32_def _).trans (Int.emod_eq_of_lt (by omega) (by omega))
theorem bits_xor32 {a b : Nat} (ha : a < 4294967296) (hb : b < 4294967296) : Go.bits .xor .u32 (a : Int) (b : Int) = ((a ^^^ b : Nat) : Int) := by
  unfold Go.bits
  have h1 : (BitVec.ofInt IntKind.u32.bits (a : Int)).toNat = a := by simp [IntKind.bits]; omega
  have h2 : (BitVec.ofInt IntKind.u32.bits (b : Int)).toNat = b := by simp [IntKind.bits]; omega
  have h3 : a ^^^ b < 2 ^ 32 := Nat.xor_lt_two_pow (n := 32) ha hb
  simp only [BitVec.toNat_xor, h1, h2]
  exact (u32_def _).trans (Int.emod_eq_of_lt (by omega) (by omega))

/-! ### sums and differences of limbs -/
theorem add32_nat {a b c : Nat} (ha : a < 4294967296) (hb : b < 4294967296) (hc : c ≤ 1) : bits_Add32.f (a : Int) (b : Int) (c : Int) = some ((((a + b + c) % 4294967296 : Nat) : Int), (((a + b + c) / 4294967296 : Nat) : Int)) := by
  unfold bits_Add32.f
  rw [wrap_u64_nat (n := a) (by omega), wrap_u64_nat (n := b) (by omega), wrap_u64_nat (n := c) (by omega), show (a : Int) + (b : Int) = ((a + b : Nat) : Int) by omega, wrap_u64_nat (by omega), show ((a + b : Nat) : Int) + (c : Int) = ((a + b + c : Nat) : Int) by omega, wrap_u64_nat (by omega)]
  congr 2
  omega
/-- the greatest bit of a limb, of an operation on limbs -/
theorem top_and (a b : Nat) : (a &&& b) / 2147483648 = (a / 2147483648) &&& (b / 2147483648) := by
  have := Nat.shiftRight_and_distrib (a := a) (b := b) (i := 31)
  rw [Nat.shiftRight_eq_div_pow, Nat.shiftRight_eq_div_pow, Nat.shiftRight_eq_div_pow] at this
  exact this
theorem top_or (a b : Nat) : (a ||| b) / 2147483648 = (a / 2147483648) ||| (b / 2147483648) := by
  have := Nat.shiftRight_or_distrib (a := a) (b := b) (i := 31)
  rw [Nat.shiftRight_eq_div_pow, Nat.shiftRight_eq_div_pow, Nat.shiftRight_eq_div_pow] at this
  exact this
theorem top_xor (a b : Nat) : (a ^^^ b) / 2147483648 = (a / 2147483648) ^^^ (b / 2147483648) := by
  have := Nat.shiftRight_xor_distrib (a := a) (b := b) (i := 31)
  rw [Nat.shiftRight_eq_div_pow, Nat.shiftRight_eq_div_pow, Nat.shiftRight_eq_div_pow] at this
  exact this
theorem sub32_nat {a b c : Nat} (ha : a < 4294967296) (hb : b < 4294967296) (hc : c ≤ 1) : bits_Sub32.f (a : Int) (b : Int) (c : Int) = some (((if a < b + c then a + 4294967296 - b - c else a - b - c : Nat) : Int), ((if a < b + c then 1 else 0 : Nat) : Int)) := by
  unfold bits_Sub32.f
  obtain ⟨d, hd⟩ : ∃ d : Nat, d = (if a < b + c then a + 4294967296 - b - c else a - b - c) := ⟨_, rfl⟩
  have e1 : ((((a : Int) - (b : Int)) % 4294967296) - (c : Int)) % 4294967296 = (d : Int) := by rw [hd]; split <;> omega
  have hdl : d < 4294967296 := by rw [hd]; split <;> omega
  rw [e1, ← hd]
  have x1 := bits_xor32 (a := 4294967295) (by omega) ha
  have x2 := bits_xor32 ha hb
  have l1 : 4294967295 ^^^ a < 4294967296 := Nat.xor_lt_two_pow (n := 32) (by omega) ha
  have l2 : a ^^^ b < 4294967296 := Nat.xor_lt_two_pow (n := 32) ha hb
  have x3 := bits_xor32 (a := 4294967295) (by omega) l2
  have l3 : 4294967295 ^^^ (a ^^^ b) < 4294967296 := Nat.xor_lt_two_pow (n := 32) (by omega) l2
  have a1 := bits_and32 l1 hb
  have a2 := bits_and32 l3 hdl
  have l4 : (4294967295 ^^^ a) &&& b < 4294967296 := Nat.and_lt_two_pow (n := 32) _ hb
  have l5 : (4294967295 ^^^ (a ^^^ b)) &&& d < 4294967296 := Nat.and_lt_two_pow (n := 32) _ hdl
  have o1 := bits_or32 l4 l5
  rw [show (4294967295 : Int) = ((4294967295 : Nat) : Int) by rfl, x1, a1, x2, x3, a2, o1]
  have t : ((4294967295 ^^^ a) &&& b ||| (4294967295 ^^^ (a ^^^ b)) &&& d) / 2147483648 = if a < b + c then 1 else 0 := by
    rw [top_or, top_and, top_and, top_xor, top_xor, top_xor]
    have ta : a / 2147483648 = 0 ∨ a / 2147483648 = 1 := by omega
    have tb : b / 2147483648 = 0 ∨ b / 2147483648 = 1 := by omega
    have td : d / 2147483648 = 0 ∨ d / 2147483648 = 1 := by omega
    clear x1 x2 x3 a1 a2 o1 l1 l2 l3 l4 l5 e1
    by_cases hlt : a < b + c
    · rw [if_pos hlt] at hd ⊢
      rcases ta with ta | ta <;> rcases tb with tb | tb <;> rcases td with td | td <;> rw [ta, tb, td] <;> first | rfl | (exfalso; omega)
    · rw [if_neg hlt] at hd ⊢
      rcases ta with ta | ta <;> rcases tb with tb | tb <;> rcases td with td | td <;> rw [ta, tb, td] <;> first | rfl | (exfalso; omega)
  have t2 : (((4294967295 ^^^ a) &&& b ||| (4294967295 ^^^ (a ^^^ b)) &&& d : Nat) : Int) / 2147483648 = ((if a < b + c then 1 else 0 : Nat) : Int) := by rw [← t]; omega
  rw [t2]

/-! ### comparisons -/
theorem cmpint_eq (a b : Int) : cmp_Compare_int.f a b = some (if a < b then -1 else if b < a then 1 else 0) := by
  unfold cmp_Compare_int.f cmp_isNaN_int.f
  simp only [Option.bind_some, bne_self_eq_false, Bool.false_eq_true, if_false]
  by_cases h : a < b
  · rw [if_pos h, if_pos h]
  · rw [if_neg h, if_neg h]
    by_cases h2 : a > b
    · rw [if_pos h2, if_pos h2]
    · rw [if_neg h2, if_neg h2]
theorem cmpu32_eq (a b : Int) : cmp_Compare_uint32.f a b = some (if a < b then -1 else if b < a then 1 else 0) := by
  unfold cmp_Compare_uint32.f cmp_isNaN_uint32.f
  simp only [Option.bind_some, bne_self_eq_false, Bool.false_eq_true, if_false]
  by_cases h : a < b
  · rw [if_pos h, if_pos h]
  · rw [if_neg h, if_neg h]
    by_cases h2 : a > b
    · rw [if_pos h2, if_pos h2]
    · rw [if_neg h2, if_neg h2]
theorem ncmp_loop (m n : Nat) (hl : ln m = ln n) (hb : ln m ≤ 1099511627776) : ∀ i, i ≤ ln m → (dg 4294967296 m).drop i = (dg 4294967296 n).drop i → Ev (fun k => nat_Cmp.l0 k ((i : Int) - 1) (L m) (L n)) (cmpI m n) := by
  intro i
  induction i with
  | zero =>
    intro h1 h2
    rw [List.drop_zero, List.drop_zero] at h2
    have := dg_inj b32 h2
    subst this
    refine Ev.step (fun k => by rw [nat_Cmp.l0]) ?_
    exact ev_neg (by omega) (ev_now (by unfold cmpI; rw [if_neg (Nat.lt_irrefl _), if_neg (Nat.lt_irrefl _)]))
  | succ i ih =>
    intro h1 h2
    have e : (((i + 1 : Nat) : Int) - 1) = (i : Int) := by omega
    rw [e]
    refine Ev.step (fun k => by rw [nat_Cmp.l0]) ?_
    unfold ln at h1 hl hb
    refine ev_pos (by omega) (ev_pos (by omega) (ev_pos (by rw [L_length]; unfold ln; omega) (ev_pos (by rw [L_length]; unfold ln; omega) ?_)))
    unfold L
    refine ev_some (cmpu32_eq _ _) ?_
    rw [rd_nl, rd_nl]
    by_cases c1 : gd (dg 4294967296 m) i < gd (dg 4294967296 n) i
    · rw [if_pos (by omega)]
      refine ev_neg (by omega) (ev_now ?_)
      have := val_cmp (by decide) (Dg_dg b32 m) (Dg_dg b32 n) hl (by omega) h2 c1
      rw [val_dg b32, val_dg b32] at this
      unfold cmpI; rw [if_pos this]
    · rw [if_neg (by omega)]
      by_cases c2 : gd (dg 4294967296 n) i < gd (dg 4294967296 m) i
      · rw [if_pos (by omega)]
        refine ev_neg (by omega) (ev_now ?_)
        have := val_cmp (by decide) (Dg_dg b32 n) (Dg_dg b32 m) hl.symm (by omega) h2.symm c2
        rw [val_dg b32, val_dg b32] at this
        unfold cmpI; rw [if_neg (by omega), if_pos this]
      · rw [if_neg (by omega)]
        refine ev_pos rfl ?_
        have h3 := ih (by unfold ln; omega) (by rw [drop_cons _ i (by omega), drop_cons _ i (by omega), h2, show gd (dg 4294967296 m) i = gd (dg 4294967296 n) i by omega])
        rw [wrap_id (by omega) (by omega)]
        exact h3
theorem ncmp {m n : Nat} (hb : ln m ≤ 1099511627776) (hb2 : ln n ≤ 1099511627776) : Ev (fun k => nat_Cmp.f k (L m) (L n)) (cmpI m n) := by
  refine Ev.congr (fun k => by unfold nat_Cmp.f; rw [L_length, L_length]) ?_
  refine ev_some (cmpint_eq _ _) ?_
  by_cases c1 : ln m = ln n
  · rw [if_neg (by omega), if_neg (by omega)]
    refine ev_pos rfl ?_
    have := ncmp_loop m n c1 hb (ln m) (Nat.le_refl _) (by rw [List.drop_of_length_le (by unfold ln; omega), List.drop_of_length_le (by rw [c1]; unfold ln; omega)])
    rw [wrap_id (by omega) (by omega)]
    exact this
  · by_cases c2 : ln m < ln n
    · rw [if_pos (by omega)]
      exact ev_neg (by omega) (ev_now (by have := len_cmp b32 c2; unfold cmpI; rw [if_pos this]))
    · rw [if_neg (by omega), if_pos (by omega)]
      exact ev_neg (by omega) (ev_now (by have := len_cmp b32 (m := n) (n := m) (by unfold ln at *; omega); unfold cmpI; rw [if_neg (by omega), if_pos this]))

/-! ### sums -/
theorem nadd_loop (a b : List Nat) (ha : Dg 4294967296 a) (hb : Dg 4294967296 b) (w : Nat) (hw : w ≤ 1099511627776) (hla : a.length < w) (hlb : b.length < w) : ∀ (d i c : Nat) (out : List Nat), i + d = w → out.length = w → c ≤ 1 → (i = w → c = 0) → Dg 4294967296 out → val 4294967296 (out.take i) + 4294967296 ^ i * c = val 4294967296 (a.take i) + val 4294967296 (b.take i) →
    Ev (fun k => nat_Add.l0 k (nl out) (c : Int) (w : Int) (i : Int) (nl a) (nl b)) (L (val 4294967296 a + val 4294967296 b)) := by
  intro d
  induction d with
  | zero =>
    intro i c out hi ho hc hz hdo hv
    have hcz := hz (by omega)
    subst hcz
    refine Ev.step (fun k => by rw [nat_Add.l0]) ?_
    refine ev_neg (by omega) ?_
    rw [List.take_of_length_le (by omega), List.take_of_length_le (by omega), List.take_of_length_le (by omega), Nat.mul_zero, Nat.add_zero] at hv
    rw [← hv]
    exact (made_val (by omega) hdo).bind (Ev.now _)
  | succ d ih =>
    intro i c out hi ho hc hz hdo hv
    have hg := ha.gd (by decide) i
    have hg2 := hb.gd (by decide) i
    refine Ev.step (fun k => by rw [nat_Add.l0]) ?_
    refine ev_pos (by omega) (ev_some (nat_at_nl a i) (ev_some (nat_at_nl b i) (ev_some (add32_nat hg hg2 hc) (ev_pos (by omega) (ev_pos (by rw [nl_length]; omega) ?_)))))
    rw [Int.toNat_natCast, nl_set, succ_wrap (by omega)]
    refine ih (i + 1) ((gd a i + gd b i + c) / 4294967296) (out.set i ((gd a i + gd b i + c) % 4294967296)) (by omega) (by rw [List.length_set]; omega) (by omega) ?_ (hdo.set i (Nat.mod_lt _ (by decide))) ?_
    · intro h
      have hv2 := hv
      rw [gd_ge (l := a) (by omega), gd_ge (l := b) (by omega)]
      omega
    · rw [take_set_succ _ _ _ (by omega), val_snoc, List.length_take, Nat.min_eq_left (by omega), val_take_succ, val_take_succ]
      have := Nat.mod_add_div (gd a i + gd b i + c) 4294967296
      rw [Nat.pow_succ]
      grind
theorem nadd {m n : Nat} (hl : ln m ≤ 549755813888) (hl2 : ln n ≤ 549755813888) : Ev (fun k => nat_Add.f k (L m) (L n)) (L (m + n)) := by
  have hx : mx ((L m).length : Int) ((L n).length : Int) = ((max (ln m) (ln n) : Nat) : Int) := by rw [L_length, L_length]; unfold mx; split <;> omega
  refine Ev.congr (fun k => by unfold nat_Add.f; rw [hx, succ_wrap (by omega), Int.toNat_natCast]) ?_
  refine ev_pos (by omega) (ev_pos (by omega) (ev_some rfl ?_))
  have h := nadd_loop (dg 4294967296 m) (dg 4294967296 n) (Dg_dg b32 m) (Dg_dg b32 n) (max (ln m) (ln n) + 1) (by omega) (by unfold ln; omega) (by unfold ln; omega) (max (ln m) (ln n) + 1) 0 0 (List.replicate (max (ln m) (ln n) + 1) 0) (by omega) (by rw [List.length_replicate]) (by omega) (by omega) (Dg.replicate (by decide) _) (by simp [val])
  rw [val_dg b32, val_dg b32] at h
  rw [show List.replicate (max (ln m) (ln n) + 1) (0 : Int) = nl (List.replicate (max (ln m) (ln n) + 1) 0) from nl_replicate _ 0, nl_length, List.length_replicate]
  exact h

/-! ### differences -/
theorem nsub_loop (a b : List Nat) (ha : Dg 4294967296 a) (hb : Dg 4294967296 b) (hw : a.length ≤ 1099511627776) (hlb : b.length ≤ a.length) (hge : val 4294967296 b ≤ val 4294967296 a) : ∀ (d i c : Nat) (out : List Nat), i + d = a.length → out.length = a.length → c ≤ 1 → Dg 4294967296 out → val 4294967296 (out.take i) + val 4294967296 (b.take i) = val 4294967296 (a.take i) + 4294967296 ^ i * c →
    Ev (fun k => nat_Sub.l0 k (nl out) (c : Int) (a.length : Int) (i : Int) (nl a) (nl b)) (L (val 4294967296 a - val 4294967296 b), true) := by
  intro d
  induction d with
  | zero =>
    intro i c out hi ho hc hdo hv
    refine Ev.step (fun k => by rw [nat_Sub.l0]) ?_
    refine ev_neg (by omega) ?_
    rw [List.take_of_length_le (by omega), List.take_of_length_le (by omega), List.take_of_length_le (by omega)] at hv
    have h1 := val_lt (by decide) hdo
    rw [show i = out.length by omega] at hv
    have hcz : c = 0 := by
      rcases Nat.eq_zero_or_pos c with h | h
      · exact h
      · have : c = 1 := by omega
        rw [this, Nat.mul_one] at hv
        omega
    rw [hcz, Nat.mul_zero, Nat.add_zero] at hv
    rw [show val 4294967296 a - val 4294967296 b = val 4294967296 out by omega]
    exact (made_val (by omega) hdo).bind (Ev.now _)
  | succ d ih =>
    intro i c out hi ho hc hdo hv
    have hg := ha.gd (by decide) i
    have hg2 := hb.gd (by decide) i
    refine Ev.step (fun k => by rw [nat_Sub.l0]) ?_
    refine ev_pos (by omega) (ev_some (nat_at_nl a i) (ev_some (nat_at_nl b i) (ev_some (sub32_nat hg hg2 hc) (ev_pos (by omega) (ev_pos (by rw [nl_length]; omega) ?_)))))
    rw [Int.toNat_natCast, nl_set, succ_wrap (by omega)]
    refine ih (i + 1) _ (out.set i _) (by omega) (by rw [List.length_set]; omega) (by split <;> omega) (hdo.set i (by split <;> omega)) ?_
    rw [take_set_succ _ _ _ (by omega), val_snoc, List.length_take, Nat.min_eq_left (by omega), val_take_succ, val_take_succ, Nat.pow_succ]
    split
    · rename_i hlt
      have e : (gd a i + 4294967296 - gd b i - c) + gd b i + c = gd a i + 4294967296 := by omega
      have e2 : 4294967296 ^ i * (gd a i + 4294967296 - gd b i - c) + 4294967296 ^ i * gd b i + 4294967296 ^ i * c = 4294967296 ^ i * gd a i + 4294967296 ^ i * 4294967296 := by rw [← Nat.mul_add, ← Nat.mul_add, e, Nat.mul_add]
      omega
    · rename_i hlt
      have e : (gd a i - gd b i - c) + gd b i + c = gd a i := by omega
      have e2 : 4294967296 ^ i * (gd a i - gd b i - c) + 4294967296 ^ i * gd b i + 4294967296 ^ i * c = 4294967296 ^ i * gd a i := by rw [← Nat.mul_add, ← Nat.mul_add, e]
      omega
theorem nsub_ge {m n : Nat} (hl : ln m ≤ 549755813888) (h : n ≤ m) : Ev (fun k => nat_Sub.f k (L m) (L n)) (L (m - n), true) := by
  have hle : ln n ≤ ln m := dg_len_mono b32 h
  refine (ncmp (by omega) (by omega)).bind ?_
  refine ev_neg (by unfold cmpI; rw [if_neg (by omega)]; split <;> omega) (ev_pos (by omega) (ev_pos (by rw [L_length]; omega) (ev_some rfl ?_)))
  have hh := nsub_loop (dg 4294967296 m) (dg 4294967296 n) (Dg_dg b32 m) (Dg_dg b32 n) (by unfold ln at hl; omega) (by unfold ln at hle; exact hle) (by rw [val_dg b32, val_dg b32]; exact h) (ln m) 0 0 (List.replicate (ln m) 0) (by unfold ln; omega) (by rw [List.length_replicate]; rfl) (by omega) (Dg.replicate (by decide) _) (by simp [val])
  rw [val_dg b32, val_dg b32] at hh
  rw [L_length, Int.toNat_natCast, show List.replicate (ln m) (0 : Int) = nl (List.replicate (ln m) 0) from nl_replicate _ 0, nl_length, List.length_replicate]
  exact hh
theorem nsub_lt {m n : Nat} (hl : ln n ≤ 549755813888) (h : m < n) : Ev (fun k => nat_Sub.f k (L m) (L n)) ([], false) := by
  have hle : ln m ≤ ln n := dg_len_mono b32 (Nat.le_of_lt h)
  refine (ncmp (by omega) (by omega)).bind ?_
  exact ev_pos (by unfold cmpI; rw [if_pos h]; omega) (Ev.now _)
end Go.Proofs.Ytcepdndhkidehaa.M


namespace Go.Proofs.Ytcepdndhkidehaa.M
open Go.RowKit Go.Proofs.YtcepdndhkidehaaW.PrintWords Go.Proofs.YtcepdndhkidehaaW.PrintLast Go.Proofs.YtcepdndhkidehaaW.PrintMore Go.Proofs.Ytcepdndhkidehaa.PA
set_option linter.unusedVariables false
set_option linter.unusedSimpArgs false

/-! ### the document's difference -/
theorem rsub_loop (a b : List Nat) (ha : Dg 10 a) (hb : Dg 10 b) (hw : a.length ≤ 1099511627776) (hlb : b.length ≤ a.length) (hge : val 10 b ≤ val 10 a) : ∀ (d c : Nat) (out : List Nat), out.length + d = a.length → c ≤ 1 → Dg 10 out → val 10 out + val 10 (b.take out.length) = val 10 (a.take out.length) + 10 ^ out.length * c →
    Ev (fun k => numeraryref02_Sub.l0 k (nl a) (nl b) (nl out) (c : Int) (out.length : Int)) (D (val 10 a - val 10 b)) := by
  intro d
  induction d with
  | zero =>
    intro c out ho hc hdo hv
    refine Ev.step (fun k => by rw [numeraryref02_Sub.l0]) ?_
    refine ev_neg (by rw [nl_length]; omega) ?_
    rw [List.take_of_length_le (by omega), List.take_of_length_le (by omega)] at hv
    have h1 := val_lt (by decide) hdo
    have hcz : c = 0 := by
      rcases Nat.eq_zero_or_pos c with h | h
      · exact h
      · have : c = 1 := by omega
        rw [this, Nat.mul_one] at hv
        omega
    rw [hcz, Nat.mul_zero, Nat.add_zero] at hv
    rw [show val 10 a - val 10 b = val 10 out by omega]
    exact (rtrim_val (by omega) hdo).bind (Ev.now _)
  | succ d ih =>
    intro c out ho hc hdo hv
    have hg := ha.gd (by decide) out.length
    have hg2 := hb.gd (by decide) out.length
    refine Ev.step (fun k => by rw [numeraryref02_Sub.l0]) ?_
    refine ev_pos (by rw [nl_length]; omega) (ev_some (rat_nl b out.length) (ev_pos (by omega) ?_))
    rw [rd_nl]
    obtain ⟨g, hge1⟩ : ∃ g, gd a out.length = g := ⟨_, rfl⟩
    obtain ⟨g2, hge2⟩ : ∃ g, gd b out.length = g := ⟨_, rfl⟩
    rw [hge1] at hg ⊢
    rw [hge2] at hg2 ⊢
    rw [show wrap64 (wrap64 ((g : Int) - (g2 : Int)) - (c : Int)) = (g : Int) - (g2 : Int) - (c : Int) by rw [wrap_id (x := (g : Int) - (g2 : Int)) (by omega) (by omega), wrap_id] <;> omega]
    by_cases hlt : g < g2 + c
    · refine ev_pos (by omega) (ev_pos (by rw [nl_length]; omega) ?_)
      rw [show wrap64 ((g : Int) - (g2 : Int) - (c : Int) + 10) = ((g + 10 - g2 - c : Nat) : Int) by rw [wrap_id] <;> omega, succ_wrap (by omega), nl_snoc]
      have h := ih 1 (out ++ [g + 10 - g2 - c]) (by simp only [List.length_append, List.length_cons, List.length_nil]; omega) (by omega) (hdo.append (Dg.cons (by omega) (Dg.nil _)))
      rw [val_snoc, List.length_append, List.length_cons, List.length_nil, Nat.zero_add] at h
      refine h ?_
      rw [val_take_succ, val_take_succ, hge1, hge2, Nat.pow_succ]
      have e : (g + 10 - g2 - c) + g2 + c = g + 10 := by omega
      have e2 : 10 ^ out.length * (g + 10 - g2 - c) + 10 ^ out.length * g2 + 10 ^ out.length * c = 10 ^ out.length * g + 10 ^ out.length * 10 := by rw [← Nat.mul_add, ← Nat.mul_add, e, Nat.mul_add]
      omega
    · refine ev_neg (by omega) (ev_pos (by rw [nl_length]; omega) ?_)
      rw [show (g : Int) - (g2 : Int) - (c : Int) = ((g - g2 - c : Nat) : Int) by omega, succ_wrap (by omega), nl_snoc]
      have h := ih 0 (out ++ [g - g2 - c]) (by simp only [List.length_append, List.length_cons, List.length_nil]; omega) (by omega) (hdo.append (Dg.cons (by omega) (Dg.nil _)))
      rw [val_snoc, List.length_append, List.length_cons, List.length_nil, Nat.zero_add] at h
      refine h ?_
      rw [val_take_succ, val_take_succ, hge1, hge2, Nat.pow_succ]
      have e : (g - g2 - c) + g2 + c = g := by omega
      have e2 : 10 ^ out.length * (g - g2 - c) + 10 ^ out.length * g2 + 10 ^ out.length * c = 10 ^ out.length * g := by rw [← Nat.mul_add, ← Nat.mul_add, e]
      omega
theorem rsub_D {m n : Nat} (hl : dn m ≤ 1099511627776) (h : n ≤ m) : Ev (fun k => numeraryref02_Sub.f k (D m) (D n)) (D (m - n)) := by
  have h1 : dn n ≤ dn m := dg_len_mono b10 h
  have := rsub_loop (dg 10 m) (dg 10 n) (Dg_dg b10 m) (Dg_dg b10 n) hl h1 (by rw [val_dg b10, val_dg b10]; exact h) (dn m) 0 [] (by simp; rfl) (by omega) (Dg.nil _) (by simp [val])
  rw [val_dg b10, val_dg b10] at this
  exact this

/-! ### how long decimals are -/
theorem dn_le_ln (n : Nat) : dn n ≤ 10 * ln n := by
  refine (dg_len b10 n _).mpr ?_
  have h := dg_lt b32 n
  have h2 : 4294967296 ^ ln n ≤ 10 ^ (10 * ln n) := by rw [Nat.pow_mul]; exact Nat.pow_le_pow_left (by decide) _
  exact Nat.lt_of_lt_of_le h h2

theorem len_mul {B : Nat} (hB : 2 ≤ B) (a b : Nat) : (dg B (a * b)).length ≤ (dg B a).length + (dg B b).length := by
  refine (dg_len hB _ _).mpr ?_
  rw [Nat.pow_add]
  exact Nat.mul_lt_mul'' (dg_lt hB a) (dg_lt hB b)
theorem len_add {B : Nat} (hB : 2 ≤ B) (a b : Nat) : (dg B (a + b)).length ≤ max (dg B a).length (dg B b).length + 1 := by
  refine (dg_len hB _ _).mpr ?_
  have h1 := Nat.lt_of_lt_of_le (dg_lt hB a) (Nat.pow_le_pow_right (n := B) (by omega) (Nat.le_max_left _ (dg B b).length))
  have h2 := Nat.lt_of_lt_of_le (dg_lt hB b) (Nat.pow_le_pow_right (n := B) (by omega) (Nat.le_max_right (dg B a).length _))
  rw [Nat.pow_succ]
  have := Nat.mul_le_mul_left (B ^ max (dg B a).length (dg B b).length) hB
  omega
theorem ln_mul (a b : Nat) : ln (a * b) ≤ ln a + ln b := len_mul b32 a b
theorem dn_mul (a b : Nat) : dn (a * b) ≤ dn a + dn b := len_mul b10 a b
theorem ln_add (a b : Nat) : ln (a + b) ≤ max (ln a) (ln b) + 1 := len_add b32 a b
theorem dn_add (a b : Nat) : dn (a + b) ≤ max (dn a) (dn b) + 1 := len_add b10 a b
theorem ln_mono {a b : Nat} (h : a ≤ b) : ln a ≤ ln b := dg_len_mono b32 h
theorem dn_mono {a b : Nat} (h : a ≤ b) : dn a ≤ dn b := dg_len_mono b10 h
theorem ln_small {n : Nat} (h : n < 18446744073709551616) : ln n ≤ 2 := (dg_len b32 n 2).mpr (by omega)
theorem dn_small {n : Nat} (h : n < 18446744073709551616) : dn n ≤ 20 := (dg_len b10 n 20).mpr (by omega)
theorem ln_val {l : List Nat} (hd : Dg 4294967296 l) : ln (val 4294967296 l) ≤ l.length := (dg_len b32 _ _).mpr (val_lt (by decide) hd)
theorem dn_val {l : List Nat} (hd : Dg 10 l) : dn (val 10 l) ≤ l.length := (dg_len b10 _ _).mpr (val_lt (by decide) hd)

/-! ### numbers of limbs -/
theorem rmade_loop (l : List Nat) (hd : Dg 4294967296 l) (hl : l.length ≤ 1073741824) : ∀ i, i ≤ l.length → Ev (fun k => numeraryref02_Made.l0 k (nl l) (D (val 4294967296 (l.drop i))) ((i : Int) - 1)) (D (val 4294967296 l)) := by
  intro i
  induction i with
  | zero =>
    intro hi
    refine Ev.step (fun k => by rw [numeraryref02_Made.l0]) ?_
    exact ev_neg (by omega) (ev_now (by rw [List.drop_zero]))
  | succ i ih =>
    intro hi
    rw [show (((i + 1 : Nat) : Int) - 1) = (i : Int) by omega]
    refine Ev.step (fun k => by rw [numeraryref02_Made.l0]) ?_
    refine ev_pos (by omega) ?_
    have hv := val_lt (by decide) (hd.drop (i + 1))
    have hln : dn (val 4294967296 (l.drop (i + 1))) ≤ 10 * l.length := by
      refine Nat.le_trans (dn_le_ln _) (Nat.mul_le_mul_left _ ?_)
      refine (dg_len b32 _ _).mpr (Nat.lt_of_lt_of_le hv (Nat.pow_le_pow_right (by decide) ?_))
      rw [List.length_drop]; omega
    have hg := hd.gd (by decide) i
    refine Ev.bind (rtimes_D (by omega) (by decide)) (ev_pos (by omega) (ev_pos (by rw [nl_length]; omega) ?_))
    rw [rd_nl, wrap_u64_nat (by omega)]
    refine Ev.bind (rof_val (by omega)) ?_
    have hln2 : dn (val 4294967296 (l.drop (i + 1)) * 4294967296) ≤ 549755813888 := by
      have h1 := dn_mul (val 4294967296 (l.drop (i + 1))) 4294967296
      have h2 : dn 4294967296 ≤ 20 := dn_small (by decide)
      omega
    have hln3 : dn (gd l i) ≤ 549755813888 := by
      have := dn_small (n := gd l i) (by omega)
      omega
    refine Ev.bind (radd_D hln2 hln3) ?_
    have := ih (by omega)
    rw [val_drop _ _ _ (by omega), Nat.mul_comm, Nat.add_comm] at this
    rw [wrap_id (by omega) (by omega), Nat.mul_comm, Nat.mul_comm] at *
    rw [show val 4294967296 (List.drop (i + 1) l) * 4294967296 + gd l i = 4294967296 * val 4294967296 (List.drop (i + 1) l) + gd l i by rw [Nat.mul_comm]] at *
    exact this
theorem rmade_val {l : List Nat} (hd : Dg 4294967296 l) (hl : l.length ≤ 1073741824) : Ev (fun k => numeraryref02_Made.f k (nl l)) (D (val 4294967296 l)) := by
  have := rmade_loop l hd hl l.length (Nat.le_refl _)
  rw [List.drop_of_length_le (Nat.le_refl _)] at this
  refine Ev.congr (fun k => by unfold numeraryref02_Made.f; rw [nl_length, wrap_id (by omega) (by omega)]) ?_
  exact this
theorem rmade_L {n : Nat} (hl : ln n ≤ 1073741824) : Ev (fun k => numeraryref02_Made.f k (L n)) (D n) := by
  have := rmade_val (Dg_dg b32 n) hl
  rw [val_dg b32] at this
  exact this

/-! ### the document's product -/
theorem rmul_loop (m : Nat) (b : List Nat) (hb : Dg 10 b) (hm : dn m ≤ 137438953472) (hl : b.length ≤ 137438953472) : ∀ i, i ≤ b.length → Ev (fun k => numeraryref02_Mul.l0 k (D m) (nl b) (D (m * val 10 (b.drop i))) ((i : Int) - 1)) (D (m * val 10 b)) := by
  intro i
  induction i with
  | zero =>
    intro hi
    refine Ev.step (fun k => by rw [numeraryref02_Mul.l0]) ?_
    exact ev_neg (by omega) (ev_now (by rw [List.drop_zero]))
  | succ i ih =>
    intro hi
    rw [show (((i + 1 : Nat) : Int) - 1) = (i : Int) by omega]
    refine Ev.step (fun k => by rw [numeraryref02_Mul.l0]) ?_
    refine ev_pos (by omega) ?_
    have h1 : dn (m * val 10 (b.drop (i + 1))) ≤ 274877906944 := by
      have h2 := dn_mul m (val 10 (b.drop (i + 1)))
      have h3 := dn_val (hb.drop (i + 1))
      rw [List.length_drop] at h3
      omega
    have h4 : dn (m * val 10 (b.drop (i + 1)) * 10) ≤ 549755813888 := by
      have h2 := dn_mul (m * val 10 (b.drop (i + 1))) 10
      have h3 : dn 10 ≤ 20 := dn_small (by decide)
      omega
    have hg := hb.gd (by decide) i
    have h5 : dn (m * gd b i) ≤ 549755813888 := by
      have h2 := dn_mul m (gd b i)
      have h3 := dn_small (n := gd b i) (by omega)
      omega
    refine Ev.bind (rtimes_D (by omega) (by decide)) (ev_pos (by omega) (ev_pos (by rw [nl_length]; omega) ?_))
    rw [rd_nl]
    refine Ev.bind (rtimes_D (by omega) (by omega)) (Ev.bind (radd_D h4 h5) ?_)
    have := ih (by omega)
    rw [val_drop _ _ _ (by omega)] at this
    rw [wrap_id (by omega) (by omega), show m * val 10 (b.drop (i + 1)) * 10 + m * gd b i = m * (gd b i + 10 * val 10 (b.drop (i + 1))) by grind]
    exact this
theorem rmul_D {m n : Nat} (hm : dn m ≤ 137438953472) (hn : dn n ≤ 137438953472) : Ev (fun k => numeraryref02_Mul.f k (D m) (D n)) (D (m * n)) := by
  have := rmul_loop m (dg 10 n) (Dg_dg b10 n) hm hn (dn n) (Nat.le_refl _)
  rw [List.drop_of_length_le (by unfold dn; omega), val_dg b10] at this
  refine Ev.congr (fun k => by unfold numeraryref02_Mul.f; rw [D_length, wrap_id (by omega) (by omega)]) ?_
  exact this

/-! ### the program's product -/
theorem mul_step {c u v o : Nat} (hc : c < 4294967296) (hu : u < 4294967296) (hv : v < 4294967296) (ho : o < 4294967296) :
    IntKind.u64.wrap ((c : Int) + (IntKind.u64.wrap ((IntKind.u64.wrap ((IntKind.u64.wrap (u : Int)) * (IntKind.u64.wrap (v : Int)))) + (IntKind.u64.wrap (o : Int))))) = ((c + (u * v + o) : Nat) : Int) ∧ (c + (u * v + o)) / 4294967296 < 4294967296 := by
  have hp : u * v ≤ 4294967295 * 4294967295 := Nat.mul_le_mul (by omega) (by omega)
  obtain ⟨p, hpp⟩ : ∃ p, p = u * v := ⟨_, rfl⟩
  rw [wrap_u64_nat (n := u) (by omega), wrap_u64_nat (n := v) (by omega), wrap_u64_nat (n := o) (by omega), show (u : Int) * (v : Int) = ((u * v : Nat) : Int) from (Int.natCast_mul u v).symm]
  rw [← hpp] at hp ⊢
  rw [wrap_u64_nat (by omega), show (p : Int) + (o : Int) = ((p + o : Nat) : Int) from (Int.natCast_add _ _).symm, wrap_u64_nat (by omega), show (c : Int) + ((p + o : Nat) : Int) = ((c + (p + o) : Nat) : Int) from (Int.natCast_add _ _).symm, wrap_u64_nat (by omega)]
  exact ⟨rfl, by omega⟩
theorem mul_inner (x y : List Nat) (hx : Dg 4294967296 x) (hy : Dg 4294967296 y) (hlx : x.length ≤ 549755813888) (hly : y.length ≤ 549755813888) (i : Nat) (hi : i < x.length) (T : Nat) {r : List Int}
    (nxt : ∀ out, out.length = x.length + y.length → Dg 4294967296 out → (∀ j, i + 1 + y.length ≤ j → gd out j = 0) → val 4294967296 out = T + 4294967296 ^ i * (gd x i * val 4294967296 y) →
      Ev (fun k => times_Mul.l0 k (nl y) (nl out) (nl x) (x.length : Int) ((i + 1 : Nat) : Int)) r) :
    ∀ (d j c : Nat) (out : List Nat), j + d = y.length → out.length = x.length + y.length → Dg 4294967296 out → (∀ j, i + y.length ≤ j → gd out j = 0) → c < 4294967296 → val 4294967296 out + 4294967296 ^ (i + j) * c = T + 4294967296 ^ i * (gd x i * val 4294967296 (y.take j)) →
      Ev (fun k => times_Mul.l1 k (nl y) (nl out) (i : Int) ((gd x i : Nat) : Int) (c : Int) (nl x) (x.length : Int) (i : Int) (nl y) (y.length : Int) (j : Int)) r := by
  intro d
  induction d with
  | zero =>
    intro j c out hj ho hd hz hc hv
    have hj : j = y.length := by omega
    subst hj
    refine Ev.step (fun k => by rw [times_Mul.l1]) ?_
    refine ev_neg (by omega) ?_
    rw [nl_length, wrap_add (by omega), Int.toNat_natCast, show (c : Int) % 4294967296 = (c : Int) by omega, nl_set, succ_wrap (by omega), nl_length]
    refine ev_pos (by omega) (ev_pos (by omega) ?_)
    have hs := val_set 4294967296 out (i + y.length) c (by omega)
    rw [hz _ (Nat.le_refl _), Nat.mul_zero, Nat.add_zero] at hs
    refine nxt (out.set (i + y.length) c) (by rw [List.length_set]; exact ho) (hd.set _ hc) ?_ ?_
    · intro j hj
      rw [gd_set _ _ _ _ (by omega), if_neg (by omega)]
      exact hz j (by omega)
    · rw [hs, hv, List.take_of_length_le (Nat.le_refl _)]
  | succ d ih =>
    intro j c out hj ho hd hz hc hv
    have hu := hx.gd (by decide) i
    have hw := hy.gd (by decide) j
    have ho2 := hd.gd (by decide) (i + j)
    refine Ev.step (fun k => by rw [times_Mul.l1]) ?_
    refine ev_pos (by omega) (ev_pos (by omega) (ev_pos (by rw [nl_length]; omega) ?_))
    rw [wrap_add (by omega)]
    refine ev_pos (by omega) (ev_pos (by rw [nl_length]; omega) ?_)
    rw [rd_nl, rd_nl]
    obtain ⟨u, hu1⟩ : ∃ u, gd x i = u := ⟨_, rfl⟩
    obtain ⟨v, hv1⟩ : ∃ u, gd y j = u := ⟨_, rfl⟩
    obtain ⟨o, ho1⟩ : ∃ u, gd out (i + j) = u := ⟨_, rfl⟩
    have hst := mul_step hc hu hw ho2
    have ih := ih (j + 1) ((c + (gd x i * gd y j + gd out (i + j))) / 4294967296) (out.set (i + j) ((c + (gd x i * gd y j + gd out (i + j))) % 4294967296)) (by omega) (by rw [List.length_set]; exact ho) (hd.set _ (Nat.mod_lt _ (by decide)))
      (by intro q hq; rw [gd_set _ _ _ _ (by omega), if_neg (by omega)]; exact hz q hq) hst.2
    rw [hu1, hv1, ho1] at hst ih ⊢
    rw [hu1] at hu hv
    rw [hv1] at hw
    rw [ho1] at ho2
    rw [hst.1, Int.toNat_natCast, show ((c + (u * v + o) : Nat) : Int) % 4294967296 = (((c + (u * v + o)) % 4294967296 : Nat) : Int) from (Int.natCast_emod _ _).symm, show ((c + (u * v + o) : Nat) : Int) / 4294967296 = (((c + (u * v + o)) / 4294967296 : Nat) : Int) from (Int.natCast_ediv _ _).symm, nl_set, succ_wrap (by omega)]
    refine ih ?_
    have hs := val_set 4294967296 out (i + j) ((c + (u * v + o)) % 4294967296) (by omega)
    rw [ho1] at hs
    rw [val_take_succ, hv1]
    have hm := Nat.mod_add_div (c + (u * v + o)) 4294967296
    rw [show i + (j + 1) = i + j + 1 by omega, Nat.mul_add u, Nat.mul_add (4294967296 ^ i), show 4294967296 ^ i * (u * (4294967296 ^ j * v)) = 4294967296 ^ (i + j) * (u * v) by rw [Nat.pow_add, Nat.mul_assoc, Nat.mul_left_comm u], Nat.pow_succ]
    generalize 4294967296 ^ (i + j) = P at hv hs ⊢
    generalize 4294967296 ^ i * (u * val 4294967296 (y.take j)) = Q at hv ⊢
    generalize u * v = x at *
    generalize (c + (x + o)) % 4294967296 = md at *
    generalize (c + (x + o)) / 4294967296 = dv at *
    have e1 : P * (md + 4294967296 * dv) = P * c + P * x + P * o := by rw [hm, Nat.mul_add, Nat.mul_add]; omega
    rw [Nat.mul_add, ← Nat.mul_assoc] at e1
    omega
theorem mul_outer (x y : List Nat) (hx : Dg 4294967296 x) (hy : Dg 4294967296 y) (hlx : x.length ≤ 549755813888) (hly : y.length ≤ 549755813888) : ∀ (d i : Nat) (out : List Nat), i + d = x.length → out.length = x.length + y.length → Dg 4294967296 out → (∀ j, i + y.length ≤ j → gd out j = 0) → val 4294967296 out = val 4294967296 (x.take i) * val 4294967296 y →
    Ev (fun k => times_Mul.l0 k (nl y) (nl out) (nl x) (x.length : Int) (i : Int)) (L (val 4294967296 x * val 4294967296 y)) := by
  intro d
  induction d with
  | zero =>
    intro i out hi ho hd hz hv
    refine Ev.step (fun k => by rw [times_Mul.l0]) ?_
    refine ev_neg (by omega) ?_
    rw [List.take_of_length_le (by omega)] at hv
    rw [← hv]
    exact (made_val (by omega) hd).bind (Ev.now _)
  | succ d ih =>
    intro i out hi ho hd hz hv
    refine Ev.step (fun k => by rw [times_Mul.l0]) ?_
    refine ev_pos (by omega) (ev_pos (by omega) (ev_pos (by rw [nl_length]; omega) ?_))
    rw [rd_nl, nl_length]
    refine mul_inner x y hx hy hlx hly i (by omega) (val 4294967296 (x.take i) * val 4294967296 y) ?_ y.length 0 0 out (by omega) ho hd hz (by decide) (by rw [hv]; simp [val])
    intro out2 h1 h2 h3 h4
    refine ih (i + 1) out2 (by omega) h1 h2 h3 ?_
    rw [h4, val_take_succ]
    grind
theorem nmul {m n : Nat} (hm : ln m ≤ 549755813888) (hn : ln n ≤ 549755813888) : Ev (fun k => times_Mul.f k (L m) (L n)) (L (m * n)) := by
  refine Ev.congr (fun k => by unfold times_Mul.f; rw [limbs_nl (by rw [L_length]; omega), limbs_nl (by rw [L_length]; omega), Option.bind_some, Option.bind_some, L_length, L_length, wrap_add (by omega), Int.toNat_natCast]) ?_
  refine ev_pos (by omega) (ev_pos (by omega) ?_)
  have h := mul_outer (dg 4294967296 m) (dg 4294967296 n) (Dg_dg b32 m) (Dg_dg b32 n) hm hn (ln m) 0 (List.replicate (ln m + ln n) 0) (by unfold ln; omega) (by rw [List.length_replicate]; rfl) (Dg.replicate (by decide) _) (fun j _ => gd_replicate _ _) (by rw [val_replicate]; simp [val])
  rw [val_dg b32, val_dg b32] at h
  rw [show List.replicate (ln m + ln n) (0 : Int) = nl (List.replicate (ln m + ln n) 0) from nl_replicate _ 0]
  exact h

/-! ### powers -/
theorem npow_loop : ∀ (k n out c : Nat), k < 9223372036854775808 → ln out + 2 * (k * c) ≤ 549755813888 → ln n ≤ c → Ev (fun r => times_Pow.l0 r (k : Int) (L n) (L out)) (L (out * n ^ k)) := by
  intro k
  induction k using Nat.strongRecOn with
  | _ k ih =>
    intro n out c hk ho hn
    refine Ev.step (fun k => by rw [times_Pow.l0]) ?_
    rcases Nat.eq_zero_or_pos k with rfl | h0
    · exact ev_neg (by omega) (ev_now (by rw [Nat.pow_zero, Nat.mul_one]))
    · refine ev_pos (by omega) ?_
      rw [and_one hk]
      have e2 : (k : Int) / 2 = ((k / 2 : Nat) : Int) := by omega
      have hnn : ln (n * n) ≤ 2 * c := Nat.le_trans (ln_mul n n) (by omega)
      have hc1 : c ≤ k * c := by
        have := Nat.mul_le_mul_right c h0
        rw [Nat.succ_eq_add_one, Nat.zero_add, Nat.one_mul] at this
        exact this
      rw [e2]
      by_cases hodd : k % 2 = 1
      · refine ev_pos (by omega) (Ev.bind (nmul (by omega) (by omega)) ?_)
        have hon : ln (out * n) ≤ ln out + c := Nat.le_trans (ln_mul out n) (by omega)
        by_cases h1 : k = 1
        · refine ev_neg (by omega) ?_
          subst h1
          have := ih 0 (by omega) n (out * n) c (by omega) (by omega) hn
          rw [Nat.pow_zero, Nat.mul_one] at this
          rw [Nat.pow_one]
          exact this
        · refine ev_pos (by omega) (Ev.bind (nmul (by omega) (by omega)) ?_)
          have hk2 : k / 2 * (2 * c) = (k - 1) * c := by
            rw [← Nat.mul_assoc, show k / 2 * 2 = k - 1 by omega]
          have hk3 : (k - 1) * c + c = k * c := by
            rw [← Nat.succ_mul]; congr 1; omega
          have := ih (k / 2) (by omega) (n * n) (out * n) (2 * c) (by omega) (by omega) hnn
          have e3 : out * n * (n * n) ^ (k / 2) = out * n ^ k := by
            rw [Nat.mul_assoc, show (n * n) = n ^ 2 by rw [Nat.pow_two], ← Nat.pow_mul, ← Nat.pow_succ']
            rw [show (2 * (k / 2)).succ = k by omega]
          rw [e3] at this
          exact this
      · refine ev_neg (by omega) (ev_pos (by omega) (Ev.bind (nmul (by omega) (by omega)) ?_))
        have hk2 : k / 2 * (2 * c) = k * c := by
          rw [← Nat.mul_assoc, show k / 2 * 2 = k by omega]
        have := ih (k / 2) (by omega) (n * n) out (2 * c) (by omega) (by omega) hnn
        have e3 : out * (n * n) ^ (k / 2) = out * n ^ k := by
          rw [show (n * n) = n ^ 2 by rw [Nat.pow_two], ← Nat.pow_mul]
          rw [show (2 * (k / 2)) = k by omega]
        rw [e3] at this
        exact this
theorem npow {n k : Nat} (hk : k < 9223372036854775808) (h : 2 * (k * ln n) ≤ 274877906944) : Ev (fun r => times_Pow.f r (L n) (k : Int)) (L (n ^ k)) := by
  refine Ev.bind (of_val (n := 1) (by decide)) ?_
  have h1 : ln 1 ≤ 2 := ln_small (by decide)
  have := npow_loop k n 1 (ln n) hk (by omega) (Nat.le_refl _)
  rw [Nat.one_mul] at this
  exact this
theorem npow_neg {n : Nat} {k : Int} (hk : k ≤ 0) : Ev (fun r => times_Pow.f r (L n) k) (L 1) := by
  refine Ev.bind (of_val (n := 1) (by decide)) ?_
  refine Ev.step (fun k => by rw [times_Pow.l0]) ?_
  exact ev_neg (by omega) (Ev.now _)
theorem nall : ∀ (l : List Nat) (m : Nat) (pre : List S25), ((ln m + (l.map ln).sum) ≤ 274877906944) → (pre.length + l.length ≤ 1000) →
    Ev (fun k => times_All.l0 k (pre ++ l.map (fun n => (⟨L n⟩ : S25))) ((pre.length + l.length : Nat) : Int) (pre.length : Int) (L m)) (L (l.foldl (· * ·) m)) := by
  intro l
  induction l with
  | nil =>
    intro m pre h1 h2
    refine Ev.step (fun k => by rw [times_All.l0]) ?_
    exact ev_neg (by simp) (ev_now (by simp))
  | cons x l ih =>
    intro m pre h1 h2
    simp only [List.map_cons, List.sum_cons, List.length_cons] at h1 h2 ⊢
    refine Ev.step (fun k => by rw [times_All.l0]) ?_
    refine ev_pos (by omega) (ev_pos (by omega) (ev_pos (by simp only [List.length_append, List.length_cons, List.length_map]; omega) ?_))
    have e1 : (rd_T25 (pre ++ (⟨L x⟩ : S25) :: l.map (fun n => (⟨L n⟩ : S25))) (pre.length : Int)).f0 = L x := by
      unfold rd_T25
      rw [Int.toNat_natCast, List.getD_eq_getElem?_getD, List.getElem?_append_right (Nat.le_refl _), Nat.sub_self]; rfl
    rw [e1]
    refine Ev.bind (nmul (by omega) (by omega)) ?_
    have := ih (m * x) (pre ++ [⟨L x⟩]) (by have := ln_mul m x; omega) (by simp only [List.length_append, List.length_cons, List.length_nil]; omega)
    simp only [List.length_append, List.length_cons, List.length_nil, List.append_assoc, List.cons_append, List.nil_append] at this
    rw [succ_wrap (by omega), show pre.length + (l.length + 1) = pre.length + (0 + 1) + l.length by omega]
    exact this
theorem nall_f (l : List Nat) (h1 : (l.map ln).sum ≤ 137438953472) (h2 : l.length ≤ 1000) : Ev (fun k => times_All.f k (l.map (fun n => (⟨L n⟩ : S25)))) (L (l.foldl (· * ·) 1)) := by
  refine Ev.bind (of_val (n := 1) (by decide)) ?_
  have h3 : ln 1 ≤ 2 := ln_small (by decide)
  have := nall l 1 [] (by omega) (by simpa using h2)
  simpa using this

/-! ### bits -/
def bl (n : Nat) : Nat := if n = 0 then 0 else n.log2 + 1
theorem bl_le (n k : Nat) : bl n ≤ k ↔ n < 2 ^ k := by
  unfold bl
  by_cases h : n = 0
  · subst h; simp; exact Nat.pow_pos (by decide)
  · rw [if_neg h, ← Nat.log2_lt h]; omega
theorem bl_lt (n : Nat) : n < 2 ^ bl n := (bl_le n _).mp (Nat.le_refl _)
theorem bl_ge {n : Nat} (h : 0 < n) : 2 ^ (bl n - 1) ≤ n := by
  rcases Nat.lt_or_ge n (2 ^ (bl n - 1)) with h1 | h1
  · have := (bl_le n _).mpr h1
    have h2 : 0 < bl n := by unfold bl; rw [if_neg (by omega)]; omega
    omega
  · exact h1
theorem bl_eq {n k : Nat} (h1 : 2 ^ k ≤ n) (h2 : n < 2 ^ (k + 1)) : bl n = k + 1 := by
  have h3 := (bl_le n (k + 1)).mpr h2
  have h4 : ¬ bl n ≤ k := fun h => by have := (bl_le n k).mp h; omega
  omega
theorem bl_zero : bl 0 = 0 := rfl
theorem bl_pos {n : Nat} (h : 0 < n) : 0 < bl n := by unfold bl; rw [if_neg (by omega)]; omega
theorem bl_mono {m n : Nat} (h : m ≤ n) : bl m ≤ bl n := (bl_le m _).mpr (Nat.lt_of_le_of_lt h (bl_lt n))
theorem bl_shift {t low k : Nat} (ht : 0 < t) (hl : low < 2 ^ k) : bl (low + 2 ^ k * t) = k + bl t := by
  have h1 := bl_ge ht
  have h2 := bl_lt t
  have h3 := bl_pos ht
  obtain ⟨b, hb⟩ : ∃ b, bl t = b + 1 := ⟨bl t - 1, by omega⟩
  rw [hb] at h1 h2 ⊢
  rw [Nat.add_sub_cancel] at h1
  refine bl_eq (k := k + b) ?_ ?_
  · rw [Nat.pow_add]
    have := Nat.mul_le_mul_left (2 ^ k) h1
    omega
  · rw [show k + b + 1 = k + (b + 1) by omega, Nat.pow_add]
    have := Nat.mul_le_mul_left (2 ^ k) (Nat.succ_le_of_lt h2)
    rw [Nat.succ_eq_add_one, Nat.mul_add] at this
    omega
def lenTab : ByteArray := (⟨#[0, 1, 2, 2, 3, 3, 3, 3, 4, 4, 4, 4, 4, 4, 4, 4, 5, 5, 5, 5, 5, 5, 5, 5, 5, 5, 5, 5, 5, 5, 5, 5, 6, 6, 6, 6, 6, 6, 6, 6, 6, 6, 6, 6, 6, 6, 6, 6, 6, 6, 6, 6, 6, 6, 6, 6, 6, 6, 6, 6, 6, 6, 6, 6, 7, 7, 7, 7, 7, 7, 7, 7, 7, 7, 7, 7, 7, 7, 7, 7, 7, 7, 7, 7, 7, 7, 7, 7, 7, 7, 7, 7, 7, 7, 7, 7, 7, 7, 7, 7, 7, 7, 7, 7, 7, 7, 7, 7, 7, 7, 7, 7, 7, 7, 7, 7, 7, 7, 7, 7, 7, 7, 7, 7, 7, 7, 7, 7, 8, 8, 8, 8, 8, 8, 8, 8, 8, 8, 8, 8, 8, 8, 8, 8, 8, 8, 8, 8, 8, 8, 8, 8, 8, 8, 8, 8, 8, 8, 8, 8, 8, 8, 8, 8, 8, 8, 8, 8, 8, 8, 8, 8, 8, 8, 8, 8, 8, 8, 8, 8, 8, 8, 8, 8, 8, 8, 8, 8, 8, 8, 8, 8, 8, 8, 8, 8, 8, 8, 8, 8, 8, 8, 8, 8, 8, 8, 8, 8, 8, 8, 8, 8, 8, 8, 8, 8, 8, 8, 8, 8, 8, 8, 8, 8, 8, 8, 8, 8, 8, 8, 8, 8, 8, 8, 8, 8, 8, 8, 8, 8, 8, 8, 8, 8, 8, 8, 8, 8, 8, 8, 8, 8, 8, 8, 8, 8]⟩ : ByteArray)
theorem len32_def (a : Int) : bits_Len32.f a = if a ≥ 65536 then (if (a / 65536) ≥ 256 then (if 0 ≤ (((a / 65536) / 256) % 256) then (if (((a / 65536) / 256) % 256) < 256 then (some (wrap64 ((16 + 8) + (wrap64 (bt lenTab (((a / 65536) / 256) % 256)))))) else (none)) else (none)) else (if 0 ≤ ((a / 65536) % 256) then (if ((a / 65536) % 256) < 256 then (some (wrap64 (16 + (wrap64 (bt lenTab ((a / 65536) % 256)))))) else (none)) else (none))) else (if a ≥ 256 then (if 0 ≤ ((a / 256) % 256) then (if ((a / 256) % 256) < 256 then (some (wrap64 ((0 + 8) + (wrap64 (bt lenTab ((a / 256) % 256)))))) else (none)) else (none)) else (if 0 ≤ ((a) % 256) then (if ((a) % 256) < 256 then (some (wrap64 (0 + (wrap64 (bt lenTab ((a) % 256)))))) else (none)) else (none))) := rfl
theorem lenTab_at (j : Nat) (h : j < 256) : bt lenTab (j : Int) = (bl j : Int) := by
  have : ∀ j : Fin 256, bt lenTab (j.val : Int) = (bl j.val : Int) := by decide +kernel
  exact this ⟨j, h⟩
theorem len32 {a : Nat} (ha : a < 4294967296) : bits_Len32.f (a : Int) = some ((bl a : Nat) : Int) := by
  have key : ∀ (s t : Nat), t < 256 → (s = 0 ∨ 0 < t) → s ≤ 24 → a / 2 ^ s = t → (bl a : Int) = (s : Int) + (bl t : Int) := by
    intro s t ht h hs hat
    have hm := Nat.mod_add_div a (2 ^ s)
    rw [hat] at hm
    rcases h with rfl | h
    · rw [Nat.pow_zero] at hat; rw [← hat, Nat.div_one]; omega
    · have := bl_shift h (Nat.mod_lt a (Nat.pow_pos (n := s) (by decide : 0 < 2)))
      rw [hm] at this
      omega
  rw [len32_def]
  by_cases h1 : 65536 ≤ a
  · rw [if_pos (by omega)]
    by_cases h2 : 16777216 ≤ a
    · have e : (a : Int) / 65536 / 256 % 256 = ((a / 16777216 : Nat) : Int) := by omega
      rw [if_pos (by omega), e, if_pos (by omega), if_pos (by omega), lenTab_at _ (by omega), key 24 (a / 16777216) (by omega) (.inr (by omega)) (by omega) rfl]
      have := (bl_le (a / 16777216) 8).mpr (by omega)
      rw [wrap_nat (by omega), wrap_id (by omega) (by omega)]; rfl
    · have e : (a : Int) / 65536 % 256 = ((a / 65536 : Nat) : Int) := by omega
      rw [if_neg (by omega), e, if_pos (by omega), if_pos (by omega), lenTab_at _ (by omega), key 16 (a / 65536) (by omega) (.inr (by omega)) (by omega) rfl]
      have := (bl_le (a / 65536) 8).mpr (by omega)
      rw [wrap_nat (by omega), wrap_id (by omega) (by omega)]; rfl
  · rw [if_neg (by omega)]
    by_cases h2 : 256 ≤ a
    · have e : (a : Int) / 256 % 256 = ((a / 256 : Nat) : Int) := by omega
      rw [if_pos (by omega), e, if_pos (by omega), if_pos (by omega), lenTab_at _ (by omega), key 8 (a / 256) (by omega) (.inr (by omega)) (by omega) rfl]
      have := (bl_le (a / 256) 8).mpr (by omega)
      rw [wrap_nat (by omega), wrap_id (by omega) (by omega)]; rfl
    · have e : (a : Int) % 256 = (a : Int) := by omega
      rw [if_neg (by omega), e, if_pos (by omega), if_pos (by omega), lenTab_at _ (by omega)]
      have := (bl_le a 8).mpr (by omega)
      rw [wrap_nat (by omega), wrap_id (by omega) (by omega), Int.zero_add]
theorem nbits {n : Nat} (hl : ln n ≤ 1099511627776) : nat_Nat_Bits.f (L n) = some ((bl n : Nat) : Int) := by
  unfold nat_Nat_Bits.f
  rw [L_length]
  rcases Nat.eq_zero_or_pos n with rfl | hn
  · rfl
  · have h0 : 0 < ln n := by unfold ln; rw [dg_pos b32 hn]; simp
    obtain ⟨m, hm⟩ : ∃ m, ln n = m + 1 := ⟨ln n - 1, by omega⟩
    have hdl : (dg 4294967296 n).length = m + 1 := hm
    rw [hm, if_neg (by omega), pred_wrap (by omega), if_pos (by omega), if_pos (by omega)]
    unfold L
    have hg := (Dg_dg b32 n).gd (by decide) m
    rw [rd_nl, len32 hg, Option.bind_some, show (32 : Int) * (m : Int) = ((32 * m : Nat) : Int) by omega, wrap_nat (by omega)]
    have h1 := dg_last b32 hn
    rw [hdl, Nat.add_sub_cancel] at h1
    have h2 := val_split 4294967296 (dg 4294967296 n) m (by omega)
    rw [val_drop _ _ _ (by omega), List.drop_of_length_le (by omega), val_dg b32] at h2
    have h3 := val_lt (by decide) ((Dg_dg b32 n).take m)
    rw [List.length_take, Nat.min_eq_left (by omega)] at h3
    have e : (4294967296 : Nat) ^ m = 2 ^ (32 * m) := by rw [Nat.pow_mul]
    rw [e] at h2 h3
    have h4 := bl_shift h1 h3
    rw [show val 4294967296 [] = 0 from rfl, Nat.mul_zero, Nat.add_zero] at h2
    rw [← h2] at h4
    have h5 := (bl_le (gd (dg 4294967296 n) m) 32).mpr hg
    rw [wrap_add (by omega), h4]

/-! ### small values -/
theorem nsmall_big {n : Nat} (h : 18446744073709551616 ≤ n) : Ev (fun k => nat_Nat_Small.f k (L n)) (0, false) := by
  refine Ev.congr (fun k => by unfold nat_Nat_Small.f; rw [L_length]) ?_
  have : ¬ ln n ≤ 2 := fun h2 => by have := dg_len_le b32 h2; omega
  exact ev_pos (by omega) (Ev.now _)
theorem nsmall {n : Nat} (h : n < 18446744073709551616) : Ev (fun k => nat_Nat_Small.f k (L n)) ((n : Int), true) := by
  refine Ev.congr (fun k => by unfold nat_Nat_Small.f; rw [L_length]) ?_
  have h2 := ln_small h
  refine ev_neg (by omega) ?_
  have shl0 : ∀ x : Nat, x < 4294967296 → shl .u64 (IntKind.u64.wrap (x : Int)) (wrap64 (32 * 0)) = (x : Int) := by
    intro x hx
    unfold shl
    rw [wrap_u64_nat (by omega), wrap_id (by omega) (by omega)]
    show IntKind.u64.wrap ((x : Int) * 1) = _
    rw [Int.mul_one, wrap_u64_nat (by omega)]
  have shl1 : ∀ x : Nat, x < 4294967296 → shl .u64 (IntKind.u64.wrap (x : Int)) (wrap64 (32 * 1)) = ((4294967296 * x : Nat) : Int) := by
    intro x hx
    unfold shl
    rw [wrap_u64_nat (by omega), wrap_id (by omega) (by omega)]
    show IntKind.u64.wrap ((x : Int) * 4294967296) = _
    rw [u64_id] <;> omega
  rcases Nat.eq_zero_or_pos n with rfl | hn
  · refine Ev.step (fun k => by rw [nat_Nat_Small.l0]) ?_
    exact ev_neg (by decide) (Ev.now _)
  · by_cases h1 : n < 4294967296
    · have e : dg 4294967296 n = [n] := by rw [dg_pos b32 hn, Nat.div_eq_of_lt h1, Nat.mod_eq_of_lt h1]; rfl
      have el : L n = nl [n] := by unfold L; rw [e]
      have eln : ln n = 1 := by unfold ln; rw [e]; rfl
      rw [eln, el]
      refine Ev.step (fun k => by rw [nat_Nat_Small.l0]) ?_
      refine ev_pos (by omega) (ev_pos (by omega) (ev_pos (by rw [nl_length]; simp) (ev_pos (by rw [wrap_id] <;> omega) ?_)))
      rw [show (0 : Int) = ((0 : Nat) : Int) from rfl, rd_nl, gd_cons_zero, show (((0 : Nat) : Int)) = 0 from rfl, shl0 n h1]
      rw [show (0 : Int) = ((0 : Nat) : Int) from rfl, bits_or64 (by omega) (by omega), Nat.zero_or, succ_wrap (by omega)]
      refine Ev.step (fun k => by rw [nat_Nat_Small.l0]) ?_
      exact ev_neg (by omega) (Ev.now _)
    · have e : dg 4294967296 n = [n % 4294967296, n / 4294967296] := by
        rw [dg_pos b32 hn, dg_pos b32 (by omega), Nat.div_eq_of_lt (a := n / 4294967296) (by omega), Nat.mod_eq_of_lt (a := n / 4294967296) (by omega)]; rfl
      have el : L n = nl [n % 4294967296, n / 4294967296] := by unfold L; rw [e]
      have eln : ln n = 2 := by unfold ln; rw [e]; rfl
      rw [eln, el]
      refine Ev.step (fun k => by rw [nat_Nat_Small.l0]) ?_
      refine ev_pos (by omega) (ev_pos (by omega) (ev_pos (by rw [nl_length]; simp) (ev_pos (by rw [wrap_id] <;> omega) ?_)))
      rw [show (0 : Int) = ((0 : Nat) : Int) from rfl, rd_nl, gd_cons_zero, show (((0 : Nat) : Int)) = 0 from rfl, shl0 _ (Nat.mod_lt _ (by decide))]
      rw [show (0 : Int) = ((0 : Nat) : Int) from rfl, bits_or64 (by omega) (by omega), Nat.zero_or, succ_wrap (by omega)]
      refine Ev.step (fun k => by rw [nat_Nat_Small.l0]) ?_
      refine ev_pos (by omega) (ev_pos (by omega) (ev_pos (by rw [nl_length]; simp) (ev_pos (by rw [wrap_id] <;> omega) ?_)))
      rw [rd_nl, gd_cons_succ, gd_cons_zero, show ((0 + 1 : Nat) : Int) = 1 from rfl, shl1 _ (by omega), bits_or64 (by omega) (by omega)]
      have e3 : n % 4294967296 ||| 4294967296 * (n / 4294967296) = n := by
        have := Nat.two_pow_add_eq_or_of_lt (i := 32) (b := n % 4294967296) (Nat.mod_lt _ (by decide)) (n / 4294967296)
        have h9 : 4294967296 * (n / 4294967296) + n % 4294967296 = (4294967296 * (n / 4294967296) ||| n % 4294967296) := this
        rw [Nat.or_comm]
        omega
      rw [e3, show wrap64 ((1 : Int) + 1) = ((2 : Nat) : Int) by rw [wrap_id] <;> omega]
      refine Ev.step (fun k => by rw [nat_Nat_Small.l0]) ?_
      exact ev_neg (by omega) (Ev.now _)
end Go.Proofs.Ytcepdndhkidehaa.M


namespace Go.Proofs.Ytcepdndhkidehaa.M
open Go.RowKit Go.Proofs.YtcepdndhkidehaaW.PrintWords Go.Proofs.YtcepdndhkidehaaW.PrintLast Go.Proofs.YtcepdndhkidehaaW.PrintMore Go.Proofs.Ytcepdndhkidehaa.PA
set_option linter.unusedVariables false
set_option linter.unusedSimpArgs false
theorem wf_u32 {x : Int} (h : (Lit.int .u32 x).wf = true) : 0 ≤ x ∧ x < 4294967296 := by
  simp [Lit.wf, IntKind.min, IntKind.max, IntKind.signed, IntKind.bits] at h
  omega
theorem wf_u64 {x : Int} (h : (Lit.int .u64 x).wf = true) : 0 ≤ x ∧ x < 18446744073709551616 := by
  simp [Lit.wf, IntKind.min, IntKind.max, IntKind.signed, IntKind.bits] at h
  omega
theorem wf_i64 {x : Int} (h : (Lit.int .i64 x).wf = true) : -9223372036854775808 ≤ x ∧ x < 9223372036854775808 := by
  simp [Lit.wf, IntKind.min, IntKind.max, IntKind.signed, IntKind.bits] at h
  omega
theorem wf_u8 {x : Int} (h : (Lit.int .u8 x).wf = true) : 0 ≤ x ∧ x < 256 := by
  simp [Lit.wf, IntKind.min, IntKind.max, IntKind.signed, IntKind.bits] at h
  omega
theorem limbs_in {l : List Int} (h : ∀ x ∈ l, (Lit.int .u32 x).wf = true) : ∃ t : List Nat, l = nl t ∧ Dg 4294967296 t := by
  refine ⟨l.map Int.toNat, toNl fun x hx => (wf_u32 (h x hx)).1, fun y hy => ?_⟩
  obtain ⟨x, hx, rfl⟩ := List.mem_map.mp hy
  have := wf_u32 (h x hx)
  omega
theorem few_of {l : List Nat} (n : Nat) {N : Int} (hN : N = (n : Int)) : (nl l).take ((mn ((nl l).length : Int) N) : Int).toNat = nl (l.take n) ∧ 0 ≤ mn ((nl l).length : Int) N ∧ mn ((nl l).length : Int) N ≤ ((nl l).length : Int) := by
  subst hN
  rw [nl_length]
  unfold mn
  refine ⟨?_, ?_, ?_⟩
  · split
    · rw [Int.toNat_natCast, nl_take]
    · rw [Int.toNat_natCast, nl_take, List.take_of_length_le (Nat.le_refl _), List.take_of_length_le (by omega)]
  · split <;> omega
  · split <;> omega
theorem cmpI_neg (m n : Nat) : wrap64 (-(cmpI m n)) = cmpI n m := by
  have h : cmpI n m = -(cmpI m n) := by
    unfold cmpI
    rcases Nat.lt_trichotomy m n with h | h | h
    · rw [if_neg (by omega), if_pos h, if_pos h]; rfl
    · subst h; rw [if_neg (Nat.lt_irrefl _), if_neg (Nat.lt_irrefl _)]; rfl
    · rw [if_pos h, if_neg (by omega), if_pos h]
  have h2 : -1 ≤ cmpI m n ∧ cmpI m n ≤ 1 := by unfold cmpI; split <;> (try split) <;> omega
  rw [h, wrap_id] <;> omega
theorem cmpI_self (m : Nat) : cmpI m m = 0 := by unfold cmpI; rw [if_neg (Nat.lt_irrefl _), if_neg (Nat.lt_irrefl _)]
theorem cmpI_ge {m n : Nat} : 0 ≤ cmpI m n ↔ n ≤ m := by unfold cmpI; split <;> (try split) <;> omega
theorem cmpI_eq0 {m n : Nat} : cmpI m n = 0 ↔ m = n := by unfold cmpI; split <;> (try split) <;> omega
theorem cmpI_lt {m n : Nat} : cmpI m n < 0 ↔ m < n := by unfold cmpI; split <;> (try split) <;> omega
theorem cmpI_gt {m n : Nat} : 0 < cmpI m n ↔ n < m := by unfold cmpI; split <;> (try split) <;> omega
theorem cmpI_pos {m n : Nat} : cmpI m n = 1 ↔ n < m := by unfold cmpI; split <;> (try split) <;> omega
end Go.Proofs.Ytcepdndhkidehaa.M


namespace Go.Proofs.Ytcepdndhkidehaa.M
open Go.RowKit Go.Proofs.YtcepdndhkidehaaW.PrintWords Go.Proofs.YtcepdndhkidehaaW.PrintLast Go.Proofs.YtcepdndhkidehaaW.PrintMore Go.Proofs.Ytcepdndhkidehaa.PA
set_option linter.unusedVariables false
set_option linter.unusedSimpArgs false
theorem wakes02 : Ev (fun k => numerarylaw02_wakes.f k) true := Ev.of numerarylaw02_wakes.mono numerarylaw02_wakes.is_
theorem few02 (l : List Nat) : numerarylaw02_few.f (nl l) = some (nl (l.take 30)) := by
  obtain ⟨h1, h2, h3⟩ := few_of (l := l) 30 (N := 30) rfl
  unfold numerarylaw02_few.f
  rw [if_pos h2, if_pos h3]
  exact congrArg some h1
theorem of02 {n : Nat} (h : ln n ≤ 1073741824) : Ev (fun k => numerarylaw02_of.f k (L n)) (D n) :=
  ev_some (limbs_nl (by rw [L_length]; omega)) (Ev.bind (rmade_L h) (Ev.now _))
theorem same02 {n : Nat} (h : dn n ≤ 1099511627776) : Ev (fun k => numerarylaw02_same.f k (D n) (D n)) true := by
  refine Ev.bind (rcmp_D h h) (ev_now ?_)
  rw [cmpI_self]; rfl
end Go.Proofs.Ytcepdndhkidehaa.M


namespace Go.Proofs.Ytcepdndhkidehaa.Pure
open Go.RowKit Go.Proofs.Ytcepdndhkidehaa.PA Go.Proofs.YtcepdndhkidehaaW.PrintWords Go.Proofs.YtcepdndhkidehaaW.PrintLast Go.Proofs.Ytcepdndhkidehaa.M
theorem NatAdds : numerarylaw02_NatAdds.Pure := by
  intro l0 l1 _ _ h0 _ _ h1
  obtain ⟨s, rfl, hs⟩ := limbs_in h0
  obtain ⟨t, rfl, ht⟩ := limbs_in h1
  refine Ev.rounds ?_
  refine ev_some (few02 s) (ev_some (few02 t) ?_)
  have hs := hs.take 30
  have ht := ht.take 30
  have hsl : (s.take 30).length ≤ 30 := List.length_take_le _ _
  have htl : (t.take 30).length ≤ 30 := List.length_take_le _ _
  generalize s.take 30 = s at *
  generalize t.take 30 = t at *
  obtain ⟨a, ha⟩ : ∃ a, val 4294967296 s = a := ⟨_, rfl⟩
  obtain ⟨b, hb⟩ : ∃ b, val 4294967296 t = b := ⟨_, rfl⟩
  have hla : ln a ≤ 30 := by have := ln_val hs; rw [ha] at this; omega
  have hlb : ln b ≤ 30 := by have := ln_val ht; rw [hb] at this; omega
  have hda := dn_le_ln a
  have hdb := dn_le_ln b
  have m1 := made_val (by omega) hs
  have m2 := made_val (by omega) ht
  have r1 := rmade_val hs (by omega)
  have r2 := rmade_val ht (by omega)
  rw [ha] at m1 r1
  rw [hb] at m2 r2
  have hadd := ln_add a b
  have hdadd := dn_le_ln (a + b)
  refine Ev.bind m1 (Ev.bind m2 (Ev.bind r1 (Ev.bind r2 (Ev.bind (rcmp_D (by omega) (by omega)) ?_))))
  have hsum : ∀ {r : Bool} {g : Nat → Option Bool}, Ev g r → Ev (fun k => (numerarylaw02_wakes.f k).bind fun t521 => (if t521 = true then ((nat_Add.f k (L a) (L b)).bind fun t522 => ((numerarylaw02_of.f k t522).bind fun t525 => ((numeraryref02_Add.f k (D a) (D b)).bind fun t528 => ((numerarylaw02_same.f k t525 t528).bind fun t531 => (if t531 = true then g k else (some false)))))) else (some false))) r := by
    intro r g h
    refine Ev.bind wakes02 (ev_pos rfl (Ev.bind (nadd (by omega) (by omega)) (Ev.bind (of02 (by omega)) (Ev.bind (radd_D (by omega) (by omega)) (Ev.bind (same02 (by omega)) (ev_pos rfl h))))))
  by_cases hge : b ≤ a
  · refine Ev.bind (nsub_ge (by omega) hge) (Ev.bind (ncmp (by omega) (by omega)) (ev_pos rfl (Ev.bind (ncmp (by omega) (by omega)) (ev_pos (cmpI_neg a b).symm ?_))))
    have e1 : decide (cmpI a b ≥ 0) = true := decide_eq_true (cmpI_ge.mpr hge)
    refine ev_neg (by rw [e1]; simp) (ev_pos rfl (hsum ?_))
    have hsub : ln (a - b) ≤ 30 := Nat.le_trans (ln_mono (Nat.sub_le a b)) hla
    have hdsub := dn_le_ln (a - b)
    exact Ev.bind (of02 (by omega)) (Ev.bind (rsub_D (by omega) hge) (Ev.bind (same02 (by omega)) (Ev.now _)))
  · refine Ev.bind (nsub_lt (by omega) (by omega)) (Ev.bind (ncmp (by omega) (by omega)) (ev_pos rfl (Ev.bind (ncmp (by omega) (by omega)) (ev_pos (cmpI_neg a b).symm ?_))))
    have e1 : decide (cmpI a b ≥ 0) = false := decide_eq_false (fun h => hge (cmpI_ge.mp h))
    refine ev_neg (by rw [e1]; simp) (ev_neg (by decide) (ev_some (limbs_nl (by simp)) (ev_pos rfl (hsum (Ev.now _)))))
end Go.Proofs.Ytcepdndhkidehaa.Pure

namespace Go.Proofs.Ytcepdndhkidehaa.natAdds
open Go.ChangeShapes Go.WideShapes Go.ChangeAt Go.RowKit
open Go.ChangeMaps (open_string shut_string)
set_option linter.unusedVariables false
theorem own : ownKnob Try.prog.godebug = none := by kernel_rfl
theorem laidOut : laidOutB Try.prog = true := by kernel_rfl
def IsRow (k : IntKind) (w : World) (a : Option Addr) (len cap : Nat) (zs : List Int) : Prop :=
  (a = none ∧ len = 0 ∧ cap = 0 ∧ zs = []) ∨
  ∃ x, a = some x ∧ len ≤ cap ∧ cap ≤ maxLen ∧ zs.length = cap ∧ (∀ i, i < zs.length → w.cell? (x.add i) = some (.int k (zs.getD i 0))) ∧ ∀ n ∈ zs, (Lit.int k n).wf = true
set_option maxRecDepth 100000 in
theorem lifted (os : Os) (started : os.Started) (H : Type) (enc : TypeId × Value → H) :
    ReturnsInHanded {} Try.checked os 6 .any (Rows.natAddsSpec.pre6 enc Try.prog Try.f6 Rows.natAddsRow.domain false) (Rows.natAddsSpec.post enc Try.prog Try.f6 false true false false) := by
  refine returnsInHanded_of_change_sized (C := Try.checked) own started (by kernel_rfl) Try.func6
    (ChangeSpec.witness6 (enc := enc) (C := Try.checked) false ⟨#[], #[.slice none 0 0, .slice none 0 0], []⟩ 8 (by kernel_rfl) (by kernel_rfl) (by kernel_rfl) (by kernel_rfl)) ?_
  intro W base args ds gs before hval0 hW hcnd hsz0 _
  have hsz : (DataW.weightsEach Try.prog (Try.f6.params.toList ++ Rows.natAddsSpec.plain.varTypes Try.prog) (ds ++ gs)).all (· ≤ reachBytes) = true := hsz0
  have hval : ∀ (j : Nat) t v, Try.f6.params[j]? = some t → args[j]? = some v → Value.okWide Try.prog W .any base t v := hval0
  have hW' := hW
  obtain ⟨p, q, hA0, hV, rfl, hfz, hnd⟩ := hW
  have hA : DataW.TrodAll enc Try.prog W 0 (fun _ => true) true Try.f6.params.toList args.toList ds p := hA0
  rw [Try.params6] at hA hval hsz
  obtain ⟨v0, vs0, d0, ds0, p0, q0, hargs, rfl, rfl, h0, r0⟩ := trodAll_cons hA
  obtain ⟨v1, vs1, d1, ds1, p1, q1, rfl, rfl, rfl, h1, r1⟩ := trodAll_cons r0
  obtain ⟨rfl, rfl, rfl⟩ := trodAll_nil r1
  obtain rfl : args = #[v0, v1] := by cases args; simp_all
  obtain ⟨rfl, rfl⟩ := trodVars_none hV
  obtain ⟨a0, len0, cap0, rfl⟩ := okWide_slice Try.underlying22 (hval 0 22 v0 rfl rfl)
  have k0 := h0
  have lt0 : ∀ x ∈ p0, x.block < W.heap.size := by obtain ⟨m, hm⟩ := k0; exact DataW.trod_lt m _ _ _ hm
  obtain ⟨z0, w0⟩ : ∃ zs, IsRow .u32 W a0 len0 cap0 zs := by
    obtain ⟨fuel, hf⟩ := h0
    rcases open_ints Try.underlying22 Try.underlying23 (by kernel_rfl) hf with ⟨hcs, _⟩ | ⟨x, l, c, zs, hcs, _, hl, hm, hz, _, hcell, hwz⟩
    · simp [Value.cells] at hcs
      obtain ⟨rfl, rfl, rfl⟩ := hcs
      exact ⟨[], .inl ⟨rfl, rfl, rfl, rfl⟩⟩
    · simp [Value.cells] at hcs
      obtain ⟨rfl, rfl, rfl⟩ := hcs
      exact ⟨zs, .inr ⟨_, rfl, hl, hm, by simpa using hz, hcell, hwz⟩⟩
  have y0 : len0 * 4 ≤ 140737488351232 := Go.Proofs.YtcepdndhkidehaaW.PrintWords.sized_ints hsz (j := 0) (t := 22) rfl rfl Try.underlying22 Try.underlying23 (by kernel_rfl) (by kernel_rfl) h0
  obtain ⟨a1, len1, cap1, rfl⟩ := okWide_slice Try.underlying22 (hval 1 22 v1 rfl rfl)
  have k1 := h1
  have lt1 : ∀ x ∈ p1, x.block < W.heap.size := by obtain ⟨m, hm⟩ := k1; exact DataW.trod_lt m _ _ _ hm
  obtain ⟨z1, w1⟩ : ∃ zs, IsRow .u32 W a1 len1 cap1 zs := by
    obtain ⟨fuel, hf⟩ := h1
    rcases open_ints Try.underlying22 Try.underlying23 (by kernel_rfl) hf with ⟨hcs, _⟩ | ⟨x, l, c, zs, hcs, _, hl, hm, hz, _, hcell, hwz⟩
    · simp [Value.cells] at hcs
      obtain ⟨rfl, rfl, rfl⟩ := hcs
      exact ⟨[], .inl ⟨rfl, rfl, rfl, rfl⟩⟩
    · simp [Value.cells] at hcs
      obtain ⟨rfl, rfl, rfl⟩ := hcs
      exact ⟨zs, .inr ⟨_, rfl, hl, hm, by simpa using hz, hcell, hwz⟩⟩
  have y1 : len1 * 4 ≤ 140737488351232 := Go.Proofs.YtcepdndhkidehaaW.PrintWords.sized_ints hsz (j := 1) (t := 22) rfl rfl Try.underlying22 Try.underlying23 (by kernel_rfl) (by kernel_rfl) h1
  clear hA0 hval0 hsz0 hsz
  refine (PA.numerarylaw02_NatAdds.walk Pure.NatAdds a0 len0 cap0 z0 a1 len1 cap1 z1 W w0 y0 w1 y1).mono fun e W' ⟨he, bel⟩ => ?_
  subst he
  exact ⟨_, rfl, _, _, _, [], _, [], hW', trodAll_mk1 (shut_bool Try.underlying4 _), (trodAll_cons_mk (Below.trod laidOut (by kernel_rfl) (of_decide_eq_true (by kernel_rfl)) k0 bel lt0) (trodAll_cons_mk (Below.trod laidOut (by kernel_rfl) (of_decide_eq_true (by kernel_rfl)) k1 bel lt1) trodAll_mk0)), rfl, bel.frame _, fun h => by cases h⟩
theorem over : Rows.natAddsRow.holds Try.pinned (OpenSpec.ofChange Rows.natAddsSpec) :=
  OpenClaim.holds_of_wide 6 Try.f6 rfl rfl rfl rfl rfl rfl rfl ⟨rfl, rfl, rfl, rfl, rfl⟩ rfl rfl rfl rfl rfl (by kernel_rfl) Try.func6 (by kernel_rfl)
    (of_decide_eq_true (by kernel_rfl)) (by unfold Func.isWrapper; first | (rw [if_pos (by decide +kernel)]; kernel_rfl) | (rw [if_neg (by decide +kernel)]; exact ⟨rfl, rfl⟩))
    (fun os started H enc _ => lifted os started H enc)
theorem proved : Rows.NatAddsSaid := over
#print axioms proved
end Go.Proofs.Ytcepdndhkidehaa.natAdds
namespace Go.Proofs.Ytcepdndhkidehaa
/-- The row, under a short name, for the claim. -/
theorem natAdds_holds : Rows.NatAddsSaid := natAdds.proved
end Go.Proofs.Ytcepdndhkidehaa

