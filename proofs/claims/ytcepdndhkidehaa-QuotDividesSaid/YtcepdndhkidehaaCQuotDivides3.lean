/- Texts that the proof of QuotDivides stands on, part 3. -/
import Derived.Test.YtcepdndhkidehaaCQuotDividesWMore
import Derived.Test.YtcepdndhkidehaaCQuotDividesWNEv
import Derived.Test.YtcepdndhkidehaaCQuotDivides0
import Derived.Test.YtcepdndhkidehaaCQuotDivides1
import Derived.Test.YtcepdndhkidehaaCQuotDivides2
section
namespace Go.Proofs.Ytcepdndhkidehaa.PA
open Go.RowKit Go.Proofs.YtcepdndhkidehaaW.PrintWords Go.Proofs.YtcepdndhkidehaaW.PrintLast Go.Proofs.YtcepdndhkidehaaW.PrintMore
attribute [local go_sem] max2_int min2_int max_two min_two max_three min_three max_four min_four   -- for this text's walks alone
set_option linter.unusedVariables false
set_option linter.unusedSimpArgs false

/-! ### quot_Gcd: function 47 -/
def quot_Gcd.l0 : Nat → List Int → List Int → Option (List Int)
  | 0, _, _ => none
  | k + 1, x913000, x914000 => (nat_Nat_Bits.f x914000).bind fun t915 => (if t915 > 0 then ((quot_Div.f k x913000 x914000).bind fun bt916 => (quot_Gcd.l0 k x914000 bt916.2.1)) else (some x913000))
def quot_Gcd.f (k : Nat) (l0_0 : List Int) (l1_0 : List Int) : Option (List Int) := quot_Gcd.l0 k l0_0 l1_0
theorem quot_Gcd.mono_l : ∀ k, (∀ y0 y1, LeO (quot_Gcd.l0 k y0 y1) (quot_Gcd.l0 (k + 1) y0 y1))
  | 0 => fun _ _ r h => by simp [quot_Gcd.l0] at h
  | k + 1 => by
    have ih0 := quot_Gcd.mono_l k
    intro y0 y1
    unfold quot_Gcd.l0
    repeat' first
    | (with_reducible exact ih0 _ _)
    | (with_reducible exact quot_Div.mono _ _ _)
    | (with_reducible exact LeO.refl _)
    | (with_reducible exact LeO.none _)
    | (with_reducible refine LeO.ite ?_ ?_)
    | (with_reducible refine LeO.bind ?_ (fun _ => ?_))
    | exact ih0 _ _
    | exact quot_Div.mono _ _ _
    | exact LeO.none _
    | refine LeO.ite ?_ ?_
    | refine LeO.bind ?_ (fun _ => ?_)
theorem quot_Gcd.mono : ∀ a0 a1 k, LeO (quot_Gcd.f k a0 a1) (quot_Gcd.f (k + 1) a0 a1) := by
  intro a0 a1 k
  have ih0 := quot_Gcd.mono_l k
  unfold quot_Gcd.f
  repeat' first
      | (with_reducible exact ih0 _ _)
      | (with_reducible exact quot_Div.mono _ _ _)
      | (with_reducible exact LeO.refl _)
      | (with_reducible exact LeO.none _)
      | (with_reducible refine LeO.ite ?_ ?_)
      | (with_reducible refine LeO.bind ?_ (fun _ => ?_))
set_option maxHeartbeats 8000000 in
set_option maxRecDepth 100000 in
theorem quot_Gcd.calls (k : Nat) (P0_0_ : Nat → Prop) (u9000_ : Value) (l0_0 : List Int) (P1_0_ : Nat → Prop) (u9001_ : Value) (l1_0 : List Int) (r : List Int) (w0 w : World) (hB : Below w0.heap.size w0 w) (ho0_0 : Kd.R (Kd.int .u32) 23 w w0.heap.size P0_0_ u9000_ l0_0) (hp0_0_1_0 : ∀ k_, P0_0_ k_ → ¬ P1_0_ k_) (ho1_0 : Kd.R (Kd.int .u32) 23 w w0.heap.size P1_0_ u9001_ l1_0) (hp1_0_0_0 : ∀ k_, P1_0_ k_ → ¬ P0_0_ k_) (h : quot_Gcd.f k l0_0 l1_0 = some r) :
    Calls Try.prog 47 #[.agg #[u9000_], .agg #[u9001_]] w fun e w' => ∃ v0_ : Value, e = .returned (.agg #[v0_]) ∧ Kd.R (Kd.int .u32) 23 w' w0.heap.size (fun k_ => ((P0_0_ k_ ∨ P1_0_ k_) ∨ w.heap.size ≤ k_)) v0_ r ∧ Below w0.heap.size w0 w' ∧ Kept w w' (fun k_ => P0_0_ k_ ∨ P1_0_ k_) := by
  have hu25 := Try.underlying25
  have HO0_0 := Aside0.mk (show Kd.R (Kd.int .u32) 23 w w0.heap.size (fun k_ => ((P0_0_ k_ ∨ P1_0_ k_) ∨ w.heap.size ≤ k_) ∧ some k_ ≠ (u9001_ : Value).ownBlock) u9000_ l0_0 from Kd.R_mono ho0_0 (fun k_ hk => ⟨(.inl (.inl hk)), fun e_ => hp0_0_1_0 k_ hk (ho1_0.1 k_ e_.symm)⟩))
  have HO1_0 := Aside0.mk (show Kd.R (Kd.int .u32) 23 w w0.heap.size (fun k_ => ((P0_0_ k_ ∨ P1_0_ k_) ∨ w.heap.size ≤ k_) ∧ some k_ ≠ (u9000_ : Value).ownBlock) u9001_ l1_0 from Kd.R_mono ho1_0 (fun k_ hk => ⟨(.inl (.inr hk)), fun e_ => hp1_0_0_0 k_ hk (ho0_0.1 k_ e_.symm)⟩))
  have HK := Aside0.mk (Kept.refl w (fun k_ => P0_0_ k_ ∨ P1_0_ k_))
  have HW0 := Aside0.mk hB.size
  have HB := Aside0.mk hB
  clear hB
  have H : (quot_Gcd.l0 k l0_0 l1_0) = some r := h
  clear h
  have H' := Aside0.mk H
  clear H
  obtain ⟨Ao3, co3, eo3⟩ := Kd.R_slice HO0_0.out
  subst eo3
  go_enter Try.func47, Try.ntmps47
  go_wp2_with (first | ((with_reducible refine gate_dst (N := 2) rfl ?_); refine box_event ?hg (N := 2) ?hd (cs := #[.slice Ao3 l0_0.length co3]) (t := 25) ?hr ?_; (case hd => rfl); (case hg => rfl); (case hr => first | (go_simp; done) | (go_simp; rfl)); intro gb912 hg w4 hbox hb; replace HO0_0 := Aside0.mk (Kd.R_below (by (with_reducible repeat (first | apply Kd.R_alloc | apply Kd.R_drewN | apply Kd.R_drew)); exact HO0_0.out) hb); replace HO1_0 := Aside0.mk (Kd.R_below (by (with_reducible repeat (first | apply Kd.R_alloc | apply Kd.R_drewN | apply Kd.R_drew)); exact HO1_0.out) hb); have BK912 := Aside0.mk (hbox); have GW912 := Aside0.mk ((by rw [hg]; exact (by first | exact HK.out.1 | exact (show Kept w _ (fun k_ => P0_0_ k_ ∨ P1_0_ k_) from by repeat (first | (with_reducible first | exact HK.out | apply Kept.alloc | apply Kept.drewN | apply Kept.drew) | exact HK.out)).1) : w.heap.size ≤ gb912)); replace HK := Aside0.mk (Kept.below (S := (fun k_ => P0_0_ k_ ∨ P1_0_ k_)) (by repeat (first | (with_reducible first | exact HK.out | apply Kept.alloc | apply Kept.drewN | apply Kept.drew) | exact HK.out)) hb); have GE912 := Aside0.mk ((by rw [hg]; exact (below_size (by repeat (first | (with_reducible first | exact HB.out | apply below_alloc | apply pw_below_drewN | apply below_drew1) | exact HB.out))) : w0.heap.size ≤ gb912)); replace HB := Aside0.mk (below_step (by repeat (first | (with_reducible first | exact HB.out | apply below_alloc | apply pw_below_drewN | apply below_drew1) | exact HB.out)) hb); clear hb hbox hg; obtain ⟨Ao5, co5, eo5⟩ := Kd.R_slice HO1_0.out; subst eo5) | ((with_reducible refine gate_dst (N := 3) rfl ?_); refine box_event ?hg (N := 3) ?hd (cs := #[.slice Ao5 l1_0.length co5]) (t := 25) ?hr ?_; (case hd => rfl); (case hg => rfl); (case hr => first | (go_simp; done) | (go_simp; rfl)); intro gb913 hg w6 hbox hb; replace HO0_0 := Aside0.mk (Kd.R_below (by (with_reducible repeat (first | apply Kd.R_alloc | apply Kd.R_drewN | apply Kd.R_drew)); exact HO0_0.out) hb); replace HO1_0 := Aside0.mk (Kd.R_below (by (with_reducible repeat (first | apply Kd.R_alloc | apply Kd.R_drewN | apply Kd.R_drew)); exact HO1_0.out) hb); have BK913 := Aside0.mk (hbox); have GW913 := Aside0.mk ((by rw [hg]; exact (by first | exact HK.out.1 | exact (show Kept w _ (fun k_ => P0_0_ k_ ∨ P1_0_ k_) from by repeat (first | (with_reducible first | exact HK.out | apply Kept.alloc | apply Kept.drewN | apply Kept.drew | refine Kept.setCell ?_ (.inr GW912.out) _) | exact HK.out)).1) : w.heap.size ≤ gb913)); replace HK := Aside0.mk (Kept.below (S := (fun k_ => P0_0_ k_ ∨ P1_0_ k_)) (by repeat (first | (with_reducible first | exact HK.out | apply Kept.alloc | apply Kept.drewN | apply Kept.drew | refine Kept.setCell ?_ (.inr GW912.out) _) | exact HK.out)) hb); have GE913 := Aside0.mk ((by rw [hg]; exact (below_size (by repeat (first | (with_reducible first | exact HB.out | apply below_alloc | apply pw_below_drewN | apply below_drew1 | refine below_set ?_ GE912.out) | exact HB.out))) : w0.heap.size ≤ gb913)); replace HB := Aside0.mk (below_step (by repeat (first | (with_reducible first | exact HB.out | apply below_alloc | apply pw_below_drewN | apply below_drew1 | refine below_set ?_ GE912.out) | exact HB.out)) hb); have NB912_913 := Aside0.mk ((by rw [hg]; exact Nat.ne_of_lt (blk_lt (g := gb912) (o := .cells #[.slice Ao3 l0_0.length co3] 25 (0, 0)) (by (with_reducible repeat (first | refine blk_drewN ?_ _ | refine blk_drew ?_ | refine blk_alloc ?_ _)); exact BK912.out)) : gb912 ≠ gb913)); have NB913_912 := Aside0.mk ((by rw [hg]; exact Nat.ne_of_gt (blk_lt (g := gb912) (o := .cells #[.slice Ao3 l0_0.length co3] 25 (0, 0)) (by (with_reducible repeat (first | refine blk_drewN ?_ _ | refine blk_drew ?_ | refine blk_alloc ?_ _)); exact BK912.out)) : gb913 ≠ gb912)); replace BK912 := Aside0.mk (blk_below (g := gb912) (o := .cells #[.slice Ao3 l0_0.length co3] 25 (0, 0)) (by (with_reducible repeat (first | refine blk_drewN ?_ _ | refine blk_drew ?_ | refine blk_alloc ?_ _)); exact BK912.out) hb); clear hb hbox hg) | ((with_reducible refine gate_dst (N := 4) rfl ?_); refine box_event ?hg (N := 4) ?hd (cs := #[.slice none 0 0]) (t := 25) ?hr ?_; (case hd => rfl); (case hg => rfl); (case hr => first | (go_simp; done) | (go_simp; rfl)); intro gb914 hg w7 hbox hb; replace HO0_0 := Aside0.mk (Kd.R_below (by (with_reducible repeat (first | apply Kd.R_alloc | apply Kd.R_drewN | apply Kd.R_drew)); exact HO0_0.out) hb); replace HO1_0 := Aside0.mk (Kd.R_below (by (with_reducible repeat (first | apply Kd.R_alloc | apply Kd.R_drewN | apply Kd.R_drew)); exact HO1_0.out) hb); have BK914 := Aside0.mk (hbox); have GW914 := Aside0.mk ((by rw [hg]; exact (by first | exact HK.out.1 | exact (show Kept w _ (fun k_ => P0_0_ k_ ∨ P1_0_ k_) from by repeat (first | (with_reducible first | exact HK.out | apply Kept.alloc | apply Kept.drewN | apply Kept.drew | refine Kept.setCell ?_ (.inr GW912.out) _ | refine Kept.setCell ?_ (.inr GW913.out) _) | exact HK.out)).1) : w.heap.size ≤ gb914)); replace HK := Aside0.mk (Kept.below (S := (fun k_ => P0_0_ k_ ∨ P1_0_ k_)) (by repeat (first | (with_reducible first | exact HK.out | apply Kept.alloc | apply Kept.drewN | apply Kept.drew | refine Kept.setCell ?_ (.inr GW912.out) _ | refine Kept.setCell ?_ (.inr GW913.out) _) | exact HK.out)) hb); have GE914 := Aside0.mk ((by rw [hg]; exact (below_size (by repeat (first | (with_reducible first | exact HB.out | apply below_alloc | apply pw_below_drewN | apply below_drew1 | refine below_set ?_ GE912.out | refine below_set ?_ GE913.out) | exact HB.out))) : w0.heap.size ≤ gb914)); replace HB := Aside0.mk (below_step (by repeat (first | (with_reducible first | exact HB.out | apply below_alloc | apply pw_below_drewN | apply below_drew1 | refine below_set ?_ GE912.out | refine below_set ?_ GE913.out) | exact HB.out)) hb); have NB912_914 := Aside0.mk ((by rw [hg]; exact Nat.ne_of_lt (blk_lt (g := gb912) (o := .cells #[.slice Ao3 l0_0.length co3] 25 (0, 0)) (by (with_reducible repeat (first | refine blk_drewN ?_ _ | refine blk_drew ?_ | refine blk_alloc ?_ _)); exact BK912.out)) : gb912 ≠ gb914)); have NB914_912 := Aside0.mk ((by rw [hg]; exact Nat.ne_of_gt (blk_lt (g := gb912) (o := .cells #[.slice Ao3 l0_0.length co3] 25 (0, 0)) (by (with_reducible repeat (first | refine blk_drewN ?_ _ | refine blk_drew ?_ | refine blk_alloc ?_ _)); exact BK912.out)) : gb914 ≠ gb912)); replace BK912 := Aside0.mk (blk_below (g := gb912) (o := .cells #[.slice Ao3 l0_0.length co3] 25 (0, 0)) (by (with_reducible repeat (first | refine blk_drewN ?_ _ | refine blk_drew ?_ | refine blk_alloc ?_ _)); exact BK912.out) hb); have NB913_914 := Aside0.mk ((by rw [hg]; exact Nat.ne_of_lt (blk_lt (g := gb913) (o := .cells #[.slice Ao5 l1_0.length co5] 25 (0, 0)) (by (with_reducible repeat (first | refine blk_drewN ?_ _ | refine blk_drew ?_ | refine blk_alloc ?_ _)); exact BK913.out)) : gb913 ≠ gb914)); have NB914_913 := Aside0.mk ((by rw [hg]; exact Nat.ne_of_gt (blk_lt (g := gb913) (o := .cells #[.slice Ao5 l1_0.length co5] 25 (0, 0)) (by (with_reducible repeat (first | refine blk_drewN ?_ _ | refine blk_drew ?_ | refine blk_alloc ?_ _)); exact BK913.out)) : gb914 ≠ gb913)); replace BK913 := Aside0.mk (blk_below (g := gb913) (o := .cells #[.slice Ao5 l1_0.length co5] 25 (0, 0)) (by (with_reducible repeat (first | refine blk_drewN ?_ _ | refine blk_drew ?_ | refine blk_alloc ?_ _)); exact BK913.out) hb); clear hb hbox hg))
  (try simp only [Act.put, List.setIfInBounds_toArray, List.set_cons_zero, List.set_cons_succ])
  go_loopg [] k (fun kq w' => ∃ (x913000_1 : List Int) (x914000_1 : List Int) (u913000 : Value) (u914000 : Value), Aside0 (quot_Gcd.l0 kq x913000_1 x914000_1 = some r) ∧ Aside0 (kq ≤ k) ∧ Aside0 (Kd.R (Kd.int .u32) 23 w' w0.heap.size (fun k_ => ((P0_0_ k_ ∨ P1_0_ k_) ∨ w.heap.size ≤ k_) ∧ some k_ ≠ (u914000 : Value).ownBlock) u913000 x913000_1) ∧ Aside0 (Kd.R (Kd.int .u32) 23 w' w0.heap.size (fun k_ => ((P0_0_ k_ ∨ P1_0_ k_) ∨ w.heap.size ≤ k_) ∧ some k_ ≠ (u913000 : Value).ownBlock) u914000 x914000_1) ∧ Aside0 (w'.heap[gb912]? = some (.cells #[u913000] 25 (0, 0))) ∧ Aside0 (w'.heap[gb913]? = some (.cells #[u914000] 25 (0, 0))) ∧ Aside0 (w'.heap[gb914]? = some (.cells #[(.slice none 0 0)] 25 (0, 0))) ∧ Aside0 (Kept w w' (fun k_ => P0_0_ k_ ∨ P1_0_ k_)) ∧ Aside0 (Below w0.heap.size w0 w'))
  case atStart => exact ⟨(l0_0), (l1_0), (.slice Ao3 l0_0.length co3), (.slice Ao5 l1_0.length co5), H', ⟨Nat.le_refl _⟩, ⟨by (with_reducible repeat (first | apply Kd.R_alloc | apply Kd.R_drewN | apply Kd.R_drew)); exact HO0_0.out⟩, ⟨by (with_reducible repeat (first | apply Kd.R_alloc | apply Kd.R_drewN | apply Kd.R_drew)); exact HO1_0.out⟩, ⟨by (with_reducible repeat (first | refine blk_drewN ?_ _ | refine blk_drew ?_ | refine blk_alloc ?_ _)); exact BK912.out⟩, ⟨by (with_reducible repeat (first | refine blk_drewN ?_ _ | refine blk_drew ?_ | refine blk_alloc ?_ _)); exact BK913.out⟩, ⟨by (with_reducible repeat (first | refine blk_drewN ?_ _ | refine blk_drew ?_ | refine blk_alloc ?_ _)); exact BK914.out⟩, ⟨by repeat (first | (with_reducible first | exact HK.out | apply Kept.alloc | apply Kept.drewN | apply Kept.drew | refine Kept.setCell ?_ (.inr GW912.out) _ | refine Kept.setCell ?_ (.inr GW913.out) _ | refine Kept.setCell ?_ (.inr GW914.out) _) | exact HK.out)⟩, ⟨by repeat (first | (with_reducible first | exact HB.out | apply below_alloc | apply pw_below_drewN | apply below_drew1 | refine below_set ?_ GE912.out | refine below_set ?_ GE913.out | refine below_set ?_ GE914.out) | exact HB.out)⟩⟩
  case round =>
    clear H'
    try clear p1
    try clear p2
    try clear c4
    obtain ⟨x913000_1, x914000_1, u913000, u914000, HA, HK1, HO_913000, HO_914000, BK912, BK913, BK914, HK, HB⟩ := hrel
    cases gk with
    | zero => exact absurd HA.out (by simp [quot_Gcd.l0])
    | succ k1 =>
      have H := HA.out
      clear HA
      simp only [quot_Gcd.l0] at H
      replace H := Option.bind_eq_some_iff.mp H
      obtain ⟨t915, A80, H⟩ := H
      have A8 := Aside0.mk A80
      clear A80
      by_cases c9 : t915 > 0
      rotate_left
      · rw [if_neg c9] at H
        have c9b0 : decide (0 < t915) = false := decide_eq_false c9
        clear c9
        obtain rfl := Option.some.inj H
        have hnb38 := NB913_912.out
        have hnc38 := NB912_913.out
        have hnb39 := NB913_914.out
        have hnc39 := NB914_913.out
        have hcz40_0 : wr.cell? ⟨gb913, 0, none⟩ = some (u914000) := (blk_cell BK913.out 0).trans rfl
        have hfz40_0 := blk_frozen BK913.out 0
        obtain ⟨Ao41, co41, eo41⟩ := Kd.R_slice HO_914000.out
        subst eo41
        go_wp2_with (first | ((with_reducible refine gate_callee (f := 33) rfl ?_); refine goesL_ (some 9) rfl rfl Try.func33 (by kernel_rfl) rfl #[.agg #[.slice Ao41 x914000_1.length co41]] rfl (by (try simp only [List.map_toArray, List.map_cons, List.map_nil]); first | done | rfl | (simp only [List.length_drop, List.length_take]; rfl)) ?_; (with_reducible refine (nat_Nat_Bits.calls _ _ x914000_1 t915 _ ?side1 ?side2 A8.out).mono ?_); (case side1 => repeat (first | exact (Kd.R_reads' HO_914000.out).2.2 | (with_reducible refine Kd.C_alloc ?_ _) | (with_reducible refine Kd.C_drewN ?_ _) | (with_reducible refine Kd.C_drew ?_))); (case side2 => exact (Kd.R_reads' HO_914000.out).2.1); rintro e w42 ⟨rfl, hb⟩; refine ⟨_, rfl, ?_⟩; replace HO_913000 := Aside0.mk (Kd.R_below (by (with_reducible repeat (first | apply Kd.R_alloc | apply Kd.R_drewN | apply Kd.R_drew)); exact HO_913000.out) hb); replace HO_914000 := Aside0.mk (Kd.R_below (by (with_reducible repeat (first | apply Kd.R_alloc | apply Kd.R_drewN | apply Kd.R_drew)); exact HO_914000.out) hb); replace BK912 := Aside0.mk (blk_below (g := gb912) (o := .cells #[u913000] 25 (0, 0)) (by (with_reducible repeat (first | refine blk_drewN ?_ _ | refine blk_drew ?_ | refine blk_alloc ?_ _)); exact BK912.out) hb); replace BK913 := Aside0.mk (blk_below (g := gb913) (o := .cells #[.slice Ao41 x914000_1.length co41] 25 (0, 0)) (by (with_reducible repeat (first | refine blk_drewN ?_ _ | refine blk_drew ?_ | refine blk_alloc ?_ _)); exact BK913.out) hb); replace BK914 := Aside0.mk (blk_below (g := gb914) (o := .cells #[.slice none 0 0] 25 (0, 0)) (by (with_reducible repeat (first | refine blk_drewN ?_ _ | refine blk_drew ?_ | refine blk_alloc ?_ _)); exact BK914.out) hb); replace HK := Aside0.mk (Kept.below (S := (fun k_ => P0_0_ k_ ∨ P1_0_ k_)) (by repeat (first | (with_reducible first | exact HK.out | apply Kept.alloc | apply Kept.drewN | apply Kept.drew | refine Kept.setCell ?_ (.inr GW912.out) _ | refine Kept.setCell ?_ (.inr GW913.out) _ | refine Kept.setCell ?_ (.inr GW914.out) _) | exact HK.out)) hb); replace HB := Aside0.mk (below_step (by repeat (first | (with_reducible first | exact HB.out | apply below_alloc | apply pw_below_drewN | apply below_drew1 | refine below_set ?_ GE912.out | refine below_set ?_ GE913.out | refine below_set ?_ GE914.out) | exact HB.out)) hb); have hnb43 := NB912_914.out; have hnc43 := NB914_912.out; have hcz44_0 : w42.cell? ⟨gb912, 0, none⟩ = some (u913000) := (blk_cell BK912.out 0).trans rfl; have hfz44_0 := blk_frozen BK912.out 0; obtain ⟨Ao45, co45, eo45⟩ := Kd.R_slice HO_913000.out; subst eo45; have hcz46_0 : w42.cell? ⟨gb914, 0, none⟩ = some (.slice none 0 0) := (blk_cell BK914.out 0).trans rfl; have hfz46_0 := blk_frozen BK914.out 0))
        refine bodyPost_ret (results_cell_row rfl _ _ gb914 25 #[.slice Ao45 x913000_1.length co45] (0, 0) _ rfl (by (with_reducible repeat (first | refine blk_drewN ?_ _ | refine blk_drew ?_ | refine blk_alloc ?_ _)); refine blk_put (cs := #[.slice none 0 0]) ?_ 0 _ rfl; (with_reducible repeat (first | refine blk_drewN ?_ _ | refine blk_drew ?_ | refine blk_alloc ?_ _)); exact BK914.out) Try.underlying25 rfl (by kernel_rfl)) rfl ?_
        exact ⟨_, rfl, by (with_reducible repeat (first | apply Kd.R_alloc | apply Kd.R_drewN | apply Kd.R_drew)); exact Kd.R_mono (Kd.R_far (p := ⟨gb914, 0, none⟩) (Kd.R_types HO_913000.out BK914.out (by decide)) (fun _ hk => hk.2) (.slice Ao45 x913000_1.length co45)) (fun _ hk => hk.1.1), by repeat (first | (with_reducible first | exact HB.out | apply below_alloc | apply pw_below_drewN | apply below_drew1 | refine below_set ?_ GE912.out | refine below_set ?_ GE913.out | refine below_set ?_ GE914.out) | exact HB.out), by repeat (first | (with_reducible first | exact HK.out | apply Kept.alloc | apply Kept.drewN | apply Kept.drew | refine Kept.setCell ?_ (.inr GW912.out) _ | refine Kept.setCell ?_ (.inr GW913.out) _ | refine Kept.setCell ?_ (.inr GW914.out) _) | exact HK.out)⟩

      rw [if_pos c9] at H
      have c9b0 : decide (0 < t915) = true := decide_eq_true c9
      clear c9
      replace H := Option.bind_eq_some_iff.mp H
      obtain ⟨⟨t916, t919, t922⟩, A100, H⟩ := H
      have A10 := Aside0.mk A100
      clear A100
      have H' := Aside0.mk H
      clear H
      have hnb11 := NB913_912.out
      have hnc11 := NB912_913.out
      have hnb12 := NB913_914.out
      have hnc12 := NB914_913.out
      have hcz13_0 : wr.cell? ⟨gb913, 0, none⟩ = some (u914000) := (blk_cell BK913.out 0).trans rfl
      have hfz13_0 := blk_frozen BK913.out 0
      obtain ⟨Ao14, co14, eo14⟩ := Kd.R_slice HO_914000.out
      subst eo14
      try go_wp2_with (first | ((with_reducible refine gate_callee (f := 33) rfl ?_); refine goesL_ (some 9) rfl rfl Try.func33 (by kernel_rfl) rfl #[.agg #[.slice Ao14 x914000_1.length co14]] rfl (by (try simp only [List.map_toArray, List.map_cons, List.map_nil]); first | done | rfl | (simp only [List.length_drop, List.length_take]; rfl)) ?_; (with_reducible refine (nat_Nat_Bits.calls _ _ x914000_1 t915 _ ?side1 ?side2 A8.out).mono ?_); (case side1 => repeat (first | exact (Kd.R_reads' HO_914000.out).2.2 | (with_reducible refine Kd.C_alloc ?_ _) | (with_reducible refine Kd.C_drewN ?_ _) | (with_reducible refine Kd.C_drew ?_))); (case side2 => exact (Kd.R_reads' HO_914000.out).2.1); rintro e w15 ⟨rfl, hb⟩; refine ⟨_, rfl, ?_⟩; replace HO_913000 := Aside0.mk (Kd.R_below (by (with_reducible repeat (first | apply Kd.R_alloc | apply Kd.R_drewN | apply Kd.R_drew)); exact HO_913000.out) hb); replace HO_914000 := Aside0.mk (Kd.R_below (by (with_reducible repeat (first | apply Kd.R_alloc | apply Kd.R_drewN | apply Kd.R_drew)); exact HO_914000.out) hb); replace BK912 := Aside0.mk (blk_below (g := gb912) (o := .cells #[u913000] 25 (0, 0)) (by (with_reducible repeat (first | refine blk_drewN ?_ _ | refine blk_drew ?_ | refine blk_alloc ?_ _)); exact BK912.out) hb); replace BK913 := Aside0.mk (blk_below (g := gb913) (o := .cells #[.slice Ao14 x914000_1.length co14] 25 (0, 0)) (by (with_reducible repeat (first | refine blk_drewN ?_ _ | refine blk_drew ?_ | refine blk_alloc ?_ _)); exact BK913.out) hb); replace BK914 := Aside0.mk (blk_below (g := gb914) (o := .cells #[.slice none 0 0] 25 (0, 0)) (by (with_reducible repeat (first | refine blk_drewN ?_ _ | refine blk_drew ?_ | refine blk_alloc ?_ _)); exact BK914.out) hb); replace HK := Aside0.mk (Kept.below (S := (fun k_ => P0_0_ k_ ∨ P1_0_ k_)) (by repeat (first | (with_reducible first | exact HK.out | apply Kept.alloc | apply Kept.drewN | apply Kept.drew | refine Kept.setCell ?_ (.inr GW912.out) _ | refine Kept.setCell ?_ (.inr GW913.out) _ | refine Kept.setCell ?_ (.inr GW914.out) _) | exact HK.out)) hb); replace HB := Aside0.mk (below_step (by repeat (first | (with_reducible first | exact HB.out | apply below_alloc | apply pw_below_drewN | apply below_drew1 | refine below_set ?_ GE912.out | refine below_set ?_ GE913.out | refine below_set ?_ GE914.out) | exact HB.out)) hb); have hnb16 := NB912_914.out; have hnc16 := NB914_912.out; have hcz17_0 : w15.cell? ⟨gb912, 0, none⟩ = some (u913000) := (blk_cell BK912.out 0).trans rfl; have hfz17_0 := blk_frozen BK912.out 0; have hcz18_0 : w15.cell? ⟨gb913, 0, none⟩ = some (.slice Ao14 x914000_1.length co14) := (blk_cell BK913.out 0).trans rfl; have hfz18_0 := blk_frozen BK913.out 0; obtain ⟨Ao19, co19, eo19⟩ := Kd.R_slice HO_913000.out; subst eo19) | ((with_reducible refine gate_callee (f := 42) rfl ?_); refine goesL_ (some 14) rfl rfl Try.func42 (by kernel_rfl) rfl #[.agg #[.slice Ao19 x913000_1.length co19], .agg #[.slice Ao14 x914000_1.length co14]] rfl (by (try simp only [List.map_toArray, List.map_cons, List.map_nil]); first | done | rfl | (simp only [List.length_drop, List.length_take]; rfl)) ?_; (with_reducible refine (quot_Div.calls k1 (fun k_ => some k_ = (.slice Ao19 x913000_1.length co19 : Value).ownBlock) (.slice Ao19 x913000_1.length co19) x913000_1 _ _ x914000_1 t916 t919 t922 w0 _ ?side1 ?side2 ?side3 ?side4 A10.out).mono ?_); (case side1 => repeat (first | (with_reducible first | exact HB.out | apply below_alloc | apply pw_below_drewN | apply below_drew1 | refine below_set ?_ GE912.out | refine below_set ?_ GE913.out | refine below_set ?_ GE914.out) | exact HB.out)); (case side2 => exact Kd.R_tight rfl HO_913000.out); (case side3 => exact Kd.C_kept_own (HO_914000.out) (fun k_ hk_ hs_ => (hk_.2) hs_)); (case side4 => exact (Kd.R_reads' HO_914000.out).2.1); rintro e w20 ⟨v917, v920, rfl, ho0, ho1, hb, hkp⟩; refine ⟨_, rfl, ?_⟩; have n0_ := Aside0.mk (Kd.R_mono (ok' := fun k_ => ((P0_0_ k_ ∨ P1_0_ k_) ∨ w.heap.size ≤ k_) ∧ some k_ ≠ (v917 : Value).ownBlock ∧ some k_ ≠ (v920 : Value).ownBlock) (Kd.R_keptB (HO_914000.out) hkp (fun k_ hk_ hs_ => (hk_.2) hs_)) (fun k_ hk_ => ⟨hk_.1.1, fun e_ => Or.elim (ho0.1 k_ e_.symm).1 (fun hs_ => hk_.2.1 hs_) (fun hn_ => Nat.not_le.2 hk_.2.2 hn_), fun e_ => Or.elim (ho1.1 k_ e_.symm).1 (fun hs_ => hk_.2.1 hs_) (fun hn_ => Nat.not_le.2 hk_.2.2 hn_)⟩)); have n1_ := Aside0.mk (blk_kept (by (with_reducible repeat (first | refine blk_drewN ?_ _ | refine blk_drew ?_ | refine blk_alloc ?_ _)); exact BK912.out) hkp (fun hs_ => (fun e_ => (Kd.R_ne HO_913000.out BK912.out (by decide)) e_) hs_)); have n2_ := Aside0.mk (blk_kept (by (with_reducible repeat (first | refine blk_drewN ?_ _ | refine blk_drew ?_ | refine blk_alloc ?_ _)); exact BK913.out) hkp (fun hs_ => (fun e_ => (Kd.R_ne HO_913000.out BK913.out (by decide)) e_) hs_)); have n3_ := Aside0.mk (blk_kept (by (with_reducible repeat (first | refine blk_drewN ?_ _ | refine blk_drew ?_ | refine blk_alloc ?_ _)); exact BK914.out) hkp (fun hs_ => (fun e_ => (Kd.R_ne HO_913000.out BK914.out (by decide)) e_) hs_)); have n4_ := Aside0.mk (Kd.R_mono (ok' := fun k_ => ((P0_0_ k_ ∨ P1_0_ k_) ∨ w.heap.size ≤ k_) ∧ some k_ ≠ (v920 : Value).ownBlock ∧ some k_ ≠ (.slice Ao14 x914000_1.length co14 : Value).ownBlock) ho0 (fun k_ hk_ => ⟨Or.elim hk_.1 (fun hs_ => (HO_913000.out.1 k_ (hs_).symm).1) (fun hn_ => (.inr (Nat.le_trans (by first | exact HK.out.1 | exact (show Kept w _ (fun k_ => P0_0_ k_ ∨ P1_0_ k_) from by repeat (first | (with_reducible first | exact HK.out | apply Kept.alloc | apply Kept.drewN | apply Kept.drew | refine Kept.setCell ?_ (.inr GW912.out) _ | refine Kept.setCell ?_ (.inr GW913.out) _ | refine Kept.setCell ?_ (.inr GW914.out) _) | exact HK.out)).1) hn_))), hk_.2, Or.elim hk_.1 (fun hs_ => fun e_ => (((HO_914000.out).1 k_ e_.symm).2) hs_) (fun hn_ => (Kd.fresh' (Kd.R_lt (by (with_reducible repeat (first | apply Kd.R_alloc | apply Kd.R_drewN | apply Kd.R_drew)); exact HO_914000.out)) k_ hn_))⟩)); have n5_ := Aside0.mk (Kd.R_mono (ok' := fun k_ => ((P0_0_ k_ ∨ P1_0_ k_) ∨ w.heap.size ≤ k_) ∧ some k_ ≠ (v917 : Value).ownBlock ∧ some k_ ≠ (.slice Ao14 x914000_1.length co14 : Value).ownBlock) ho1 (fun k_ hk_ => ⟨Or.elim hk_.1 (fun hs_ => (HO_913000.out.1 k_ (hs_).symm).1) (fun hn_ => (.inr (Nat.le_trans (by first | exact HK.out.1 | exact (show Kept w _ (fun k_ => P0_0_ k_ ∨ P1_0_ k_) from by repeat (first | (with_reducible first | exact HK.out | apply Kept.alloc | apply Kept.drewN | apply Kept.drew | refine Kept.setCell ?_ (.inr GW912.out) _ | refine Kept.setCell ?_ (.inr GW913.out) _ | refine Kept.setCell ?_ (.inr GW914.out) _) | exact HK.out)).1) hn_))), hk_.2, Or.elim hk_.1 (fun hs_ => fun e_ => (((HO_914000.out).1 k_ e_.symm).2) hs_) (fun hn_ => (Kd.fresh' (Kd.R_lt (by (with_reducible repeat (first | apply Kd.R_alloc | apply Kd.R_drewN | apply Kd.R_drew)); exact HO_914000.out)) k_ hn_))⟩)); have n6_ := Aside0.mk (Kept.then_ (S := (fun k_ => P0_0_ k_ ∨ P1_0_ k_)) (by repeat (first | (with_reducible first | exact HK.out | apply Kept.alloc | apply Kept.drewN | apply Kept.drew | refine Kept.setCell ?_ (.inr GW912.out) _ | refine Kept.setCell ?_ (.inr GW913.out) _ | refine Kept.setCell ?_ (.inr GW914.out) _) | exact HK.out)) hkp (fun k_ hs_ => (fun e_ => (HO_913000.out.1 k_ e_.symm).1) hs_)); have n7_ := Aside0.mk (hb); clear HO_914000; clear BK912; clear BK913; clear BK914; clear HK; clear HB; clear HO_913000; have HO_914000 := n0_; have BK912 := n1_; have BK913 := n2_; have BK914 := n3_; have HO918 := n4_; have HO921 := n5_; have HK := n6_; have HB := n7_; clear n0_ n1_ n2_ n3_ n4_ n5_ n6_ n7_; (try clear ho1)) | ((with_reducible refine gate_dst (N := 5) rfl ?_); refine box_event ?hg (N := 5) ?hd (cs := #[.slice none 0 0]) (t := 25) ?hr ?_; (case hd => rfl); (case hg => rfl); (case hr => first | (go_simp; done) | (go_simp; rfl)); intro gb923 hg w21 hbox hb; replace HO_914000 := Aside0.mk (Kd.R_below (by (with_reducible repeat (first | apply Kd.R_alloc | apply Kd.R_drewN | apply Kd.R_drew)); exact HO_914000.out) hb); replace HO918 := Aside0.mk (Kd.R_below (by (with_reducible repeat (first | apply Kd.R_alloc | apply Kd.R_drewN | apply Kd.R_drew)); exact HO918.out) hb); replace HO921 := Aside0.mk (Kd.R_below (by (with_reducible repeat (first | apply Kd.R_alloc | apply Kd.R_drewN | apply Kd.R_drew)); exact HO921.out) hb); have BK923 := Aside0.mk (hbox); have GW923 := Aside0.mk ((by rw [hg]; exact (by first | exact HK.out.1 | exact (show Kept w _ (fun k_ => P0_0_ k_ ∨ P1_0_ k_) from by repeat (first | (with_reducible first | exact HK.out | apply Kept.alloc | apply Kept.drewN | apply Kept.drew | refine Kept.setCell ?_ (.inr GW912.out) _ | refine Kept.setCell ?_ (.inr GW913.out) _ | refine Kept.setCell ?_ (.inr GW914.out) _) | exact HK.out)).1) : w.heap.size ≤ gb923)); replace HK := Aside0.mk (Kept.below (S := (fun k_ => P0_0_ k_ ∨ P1_0_ k_)) (by repeat (first | (with_reducible first | exact HK.out | apply Kept.alloc | apply Kept.drewN | apply Kept.drew | refine Kept.setCell ?_ (.inr GW912.out) _ | refine Kept.setCell ?_ (.inr GW913.out) _ | refine Kept.setCell ?_ (.inr GW914.out) _) | exact HK.out)) hb); have GE923 := Aside0.mk ((by rw [hg]; exact (below_size (by repeat (first | (with_reducible first | exact HB.out | apply below_alloc | apply pw_below_drewN | apply below_drew1 | refine below_set ?_ GE912.out | refine below_set ?_ GE913.out | refine below_set ?_ GE914.out) | exact HB.out))) : w0.heap.size ≤ gb923)); replace HB := Aside0.mk (below_step (by repeat (first | (with_reducible first | exact HB.out | apply below_alloc | apply pw_below_drewN | apply below_drew1 | refine below_set ?_ GE912.out | refine below_set ?_ GE913.out | refine below_set ?_ GE914.out) | exact HB.out)) hb); have NB912_923 := Aside0.mk ((by rw [hg]; exact Nat.ne_of_lt (blk_lt (g := gb912) (o := .cells #[.slice Ao19 x913000_1.length co19] 25 (0, 0)) (by (with_reducible repeat (first | refine blk_drewN ?_ _ | refine blk_drew ?_ | refine blk_alloc ?_ _)); exact BK912.out)) : gb912 ≠ gb923)); have NB923_912 := Aside0.mk ((by rw [hg]; exact Nat.ne_of_gt (blk_lt (g := gb912) (o := .cells #[.slice Ao19 x913000_1.length co19] 25 (0, 0)) (by (with_reducible repeat (first | refine blk_drewN ?_ _ | refine blk_drew ?_ | refine blk_alloc ?_ _)); exact BK912.out)) : gb923 ≠ gb912)); replace BK912 := Aside0.mk (blk_below (g := gb912) (o := .cells #[.slice Ao19 x913000_1.length co19] 25 (0, 0)) (by (with_reducible repeat (first | refine blk_drewN ?_ _ | refine blk_drew ?_ | refine blk_alloc ?_ _)); exact BK912.out) hb); have NB913_923 := Aside0.mk ((by rw [hg]; exact Nat.ne_of_lt (blk_lt (g := gb913) (o := .cells #[.slice Ao14 x914000_1.length co14] 25 (0, 0)) (by (with_reducible repeat (first | refine blk_drewN ?_ _ | refine blk_drew ?_ | refine blk_alloc ?_ _)); exact BK913.out)) : gb913 ≠ gb923)); have NB923_913 := Aside0.mk ((by rw [hg]; exact Nat.ne_of_gt (blk_lt (g := gb913) (o := .cells #[.slice Ao14 x914000_1.length co14] 25 (0, 0)) (by (with_reducible repeat (first | refine blk_drewN ?_ _ | refine blk_drew ?_ | refine blk_alloc ?_ _)); exact BK913.out)) : gb923 ≠ gb913)); replace BK913 := Aside0.mk (blk_below (g := gb913) (o := .cells #[.slice Ao14 x914000_1.length co14] 25 (0, 0)) (by (with_reducible repeat (first | refine blk_drewN ?_ _ | refine blk_drew ?_ | refine blk_alloc ?_ _)); exact BK913.out) hb); have NB914_923 := Aside0.mk ((by rw [hg]; exact Nat.ne_of_lt (blk_lt (g := gb914) (o := .cells #[.slice none 0 0] 25 (0, 0)) (by (with_reducible repeat (first | refine blk_drewN ?_ _ | refine blk_drew ?_ | refine blk_alloc ?_ _)); exact BK914.out)) : gb914 ≠ gb923)); have NB923_914 := Aside0.mk ((by rw [hg]; exact Nat.ne_of_gt (blk_lt (g := gb914) (o := .cells #[.slice none 0 0] 25 (0, 0)) (by (with_reducible repeat (first | refine blk_drewN ?_ _ | refine blk_drew ?_ | refine blk_alloc ?_ _)); exact BK914.out)) : gb923 ≠ gb914)); replace BK914 := Aside0.mk (blk_below (g := gb914) (o := .cells #[.slice none 0 0] 25 (0, 0)) (by (with_reducible repeat (first | refine blk_drewN ?_ _ | refine blk_drew ?_ | refine blk_alloc ?_ _)); exact BK914.out) hb); clear hb hbox hg) | ((with_reducible refine gate_dst (N := 6) rfl ?_); refine box_event ?hg (N := 6) ?hd (cs := #[.slice none 0 0]) (t := 25) ?hr ?_; (case hd => rfl); (case hg => rfl); (case hr => first | (go_simp; done) | (go_simp; rfl)); intro gb924 hg w22 hbox hb; replace HO_914000 := Aside0.mk (Kd.R_below (by (with_reducible repeat (first | apply Kd.R_alloc | apply Kd.R_drewN | apply Kd.R_drew)); exact HO_914000.out) hb); replace HO918 := Aside0.mk (Kd.R_below (by (with_reducible repeat (first | apply Kd.R_alloc | apply Kd.R_drewN | apply Kd.R_drew)); exact HO918.out) hb); replace HO921 := Aside0.mk (Kd.R_below (by (with_reducible repeat (first | apply Kd.R_alloc | apply Kd.R_drewN | apply Kd.R_drew)); exact HO921.out) hb); have BK924 := Aside0.mk (hbox); have GW924 := Aside0.mk ((by rw [hg]; exact (by first | exact HK.out.1 | exact (show Kept w _ (fun k_ => P0_0_ k_ ∨ P1_0_ k_) from by repeat (first | (with_reducible first | exact HK.out | apply Kept.alloc | apply Kept.drewN | apply Kept.drew | refine Kept.setCell ?_ (.inr GW912.out) _ | refine Kept.setCell ?_ (.inr GW913.out) _ | refine Kept.setCell ?_ (.inr GW914.out) _ | refine Kept.setCell ?_ (.inr GW923.out) _) | exact HK.out)).1) : w.heap.size ≤ gb924)); replace HK := Aside0.mk (Kept.below (S := (fun k_ => P0_0_ k_ ∨ P1_0_ k_)) (by repeat (first | (with_reducible first | exact HK.out | apply Kept.alloc | apply Kept.drewN | apply Kept.drew | refine Kept.setCell ?_ (.inr GW912.out) _ | refine Kept.setCell ?_ (.inr GW913.out) _ | refine Kept.setCell ?_ (.inr GW914.out) _ | refine Kept.setCell ?_ (.inr GW923.out) _) | exact HK.out)) hb); have GE924 := Aside0.mk ((by rw [hg]; exact (below_size (by repeat (first | (with_reducible first | exact HB.out | apply below_alloc | apply pw_below_drewN | apply below_drew1 | refine below_set ?_ GE912.out | refine below_set ?_ GE913.out | refine below_set ?_ GE914.out | refine below_set ?_ GE923.out) | exact HB.out))) : w0.heap.size ≤ gb924)); replace HB := Aside0.mk (below_step (by repeat (first | (with_reducible first | exact HB.out | apply below_alloc | apply pw_below_drewN | apply below_drew1 | refine below_set ?_ GE912.out | refine below_set ?_ GE913.out | refine below_set ?_ GE914.out | refine below_set ?_ GE923.out) | exact HB.out)) hb); have NB912_924 := Aside0.mk ((by rw [hg]; exact Nat.ne_of_lt (blk_lt (g := gb912) (o := .cells #[.slice Ao19 x913000_1.length co19] 25 (0, 0)) (by (with_reducible repeat (first | refine blk_drewN ?_ _ | refine blk_drew ?_ | refine blk_alloc ?_ _)); exact BK912.out)) : gb912 ≠ gb924)); have NB924_912 := Aside0.mk ((by rw [hg]; exact Nat.ne_of_gt (blk_lt (g := gb912) (o := .cells #[.slice Ao19 x913000_1.length co19] 25 (0, 0)) (by (with_reducible repeat (first | refine blk_drewN ?_ _ | refine blk_drew ?_ | refine blk_alloc ?_ _)); exact BK912.out)) : gb924 ≠ gb912)); replace BK912 := Aside0.mk (blk_below (g := gb912) (o := .cells #[.slice Ao19 x913000_1.length co19] 25 (0, 0)) (by (with_reducible repeat (first | refine blk_drewN ?_ _ | refine blk_drew ?_ | refine blk_alloc ?_ _)); exact BK912.out) hb); have NB913_924 := Aside0.mk ((by rw [hg]; exact Nat.ne_of_lt (blk_lt (g := gb913) (o := .cells #[.slice Ao14 x914000_1.length co14] 25 (0, 0)) (by (with_reducible repeat (first | refine blk_drewN ?_ _ | refine blk_drew ?_ | refine blk_alloc ?_ _)); exact BK913.out)) : gb913 ≠ gb924)); have NB924_913 := Aside0.mk ((by rw [hg]; exact Nat.ne_of_gt (blk_lt (g := gb913) (o := .cells #[.slice Ao14 x914000_1.length co14] 25 (0, 0)) (by (with_reducible repeat (first | refine blk_drewN ?_ _ | refine blk_drew ?_ | refine blk_alloc ?_ _)); exact BK913.out)) : gb924 ≠ gb913)); replace BK913 := Aside0.mk (blk_below (g := gb913) (o := .cells #[.slice Ao14 x914000_1.length co14] 25 (0, 0)) (by (with_reducible repeat (first | refine blk_drewN ?_ _ | refine blk_drew ?_ | refine blk_alloc ?_ _)); exact BK913.out) hb); have NB914_924 := Aside0.mk ((by rw [hg]; exact Nat.ne_of_lt (blk_lt (g := gb914) (o := .cells #[.slice none 0 0] 25 (0, 0)) (by (with_reducible repeat (first | refine blk_drewN ?_ _ | refine blk_drew ?_ | refine blk_alloc ?_ _)); exact BK914.out)) : gb914 ≠ gb924)); have NB924_914 := Aside0.mk ((by rw [hg]; exact Nat.ne_of_gt (blk_lt (g := gb914) (o := .cells #[.slice none 0 0] 25 (0, 0)) (by (with_reducible repeat (first | refine blk_drewN ?_ _ | refine blk_drew ?_ | refine blk_alloc ?_ _)); exact BK914.out)) : gb924 ≠ gb914)); replace BK914 := Aside0.mk (blk_below (g := gb914) (o := .cells #[.slice none 0 0] 25 (0, 0)) (by (with_reducible repeat (first | refine blk_drewN ?_ _ | refine blk_drew ?_ | refine blk_alloc ?_ _)); exact BK914.out) hb); have NB923_924 := Aside0.mk ((by rw [hg]; exact Nat.ne_of_lt (blk_lt (g := gb923) (o := .cells #[.slice none 0 0] 25 (0, 0)) (by (with_reducible repeat (first | refine blk_drewN ?_ _ | refine blk_drew ?_ | refine blk_alloc ?_ _)); exact BK923.out)) : gb923 ≠ gb924)); have NB924_923 := Aside0.mk ((by rw [hg]; exact Nat.ne_of_gt (blk_lt (g := gb923) (o := .cells #[.slice none 0 0] 25 (0, 0)) (by (with_reducible repeat (first | refine blk_drewN ?_ _ | refine blk_drew ?_ | refine blk_alloc ?_ _)); exact BK923.out)) : gb924 ≠ gb923)); replace BK923 := Aside0.mk (blk_below (g := gb923) (o := .cells #[.slice none 0 0] 25 (0, 0)) (by (with_reducible repeat (first | refine blk_drewN ?_ _ | refine blk_drew ?_ | refine blk_alloc ?_ _)); exact BK923.out) hb); clear hb hbox hg; obtain ⟨Ao23, co23, eo23⟩ := Kd.R_slice HO918.out; subst eo23; have hnb24 := NB923_912.out; have hnc24 := NB912_923.out; have hnb25 := NB923_913.out; have hnc25 := NB913_923.out; have hnb26 := NB923_914.out; have hnc26 := NB914_923.out; have hnb27 := NB923_924.out; have hnc27 := NB924_923.out; have hcz28_0 : w22.cell? ⟨gb923, 0, none⟩ = some (.slice none 0 0) := (blk_cell BK923.out 0).trans rfl; have hfz28_0 := blk_frozen BK923.out 0; obtain ⟨Ao29, co29, eo29⟩ := Kd.R_slice HO921.out; subst eo29; have hnb30 := NB924_912.out; have hnc30 := NB912_924.out; have hnb31 := NB924_913.out; have hnc31 := NB913_924.out; have hnb32 := NB924_914.out; have hnc32 := NB914_924.out; have hcz33_0 : w22.cell? ⟨gb924, 0, none⟩ = some (.slice none 0 0) := (blk_cell BK924.out 0).trans rfl; have hfz33_0 := blk_frozen BK924.out 0))
      have n0_ : Aside0 (Kd.R (Kd.int .u32) 23 ((w22.setCell ⟨gb923, 0, none⟩ (.slice Ao23 t916.length co23)).setCell ⟨gb924, 0, none⟩ (.slice Ao29 t919.length co29)) w0.heap.size (fun k_ => ((P0_0_ k_ ∨ P1_0_ k_) ∨ w.heap.size ≤ k_) ∧ some k_ ≠ (.slice Ao23 t916.length co23 : Value).ownBlock ∧ some k_ ≠ (.slice Ao29 t919.length co29 : Value).ownBlock) (.slice Ao14 x914000_1.length co14) x914000_1) := ⟨by (with_reducible repeat (first | apply Kd.R_alloc | apply Kd.R_drewN | apply Kd.R_drew)); exact Kd.R_mono (Kd.R_far (p := ⟨gb924, 0, none⟩) (Kd.R_far (p := ⟨gb923, 0, none⟩) (Kd.R_types (Kd.R_types HO_914000.out BK923.out (by decide)) BK924.out (by decide)) (fun _ hk => hk.1.2) (.slice Ao23 t916.length co23)) (fun _ hk => hk.2) (.slice Ao29 t919.length co29)) (fun _ hk => ⟨hk.1.1.1, ⟨hk.1.1.2.1, hk.1.1.2.2⟩⟩)⟩
      have n1_ : Aside0 (Kd.R (Kd.int .u32) 23 ((w22.setCell ⟨gb923, 0, none⟩ (.slice Ao23 t916.length co23)).setCell ⟨gb924, 0, none⟩ (.slice Ao29 t919.length co29)) w0.heap.size (fun k_ => ((P0_0_ k_ ∨ P1_0_ k_) ∨ w.heap.size ≤ k_) ∧ some k_ ≠ (.slice Ao14 x914000_1.length co14 : Value).ownBlock ∧ some k_ ≠ (.slice Ao29 t919.length co29 : Value).ownBlock) (.slice Ao23 t916.length co23) t916) := ⟨by (with_reducible repeat (first | apply Kd.R_alloc | apply Kd.R_drewN | apply Kd.R_drew)); exact Kd.R_mono (Kd.R_far (p := ⟨gb924, 0, none⟩) (Kd.R_far (p := ⟨gb923, 0, none⟩) (Kd.R_types (Kd.R_types HO918.out BK923.out (by decide)) BK924.out (by decide)) (fun _ hk => hk.1.2) (.slice Ao23 t916.length co23)) (fun _ hk => hk.2) (.slice Ao29 t919.length co29)) (fun _ hk => ⟨hk.1.1.1, ⟨hk.1.1.2.2, hk.1.1.2.1⟩⟩)⟩
      have n2_ : Aside0 (Kd.R (Kd.int .u32) 23 ((w22.setCell ⟨gb923, 0, none⟩ (.slice Ao23 t916.length co23)).setCell ⟨gb924, 0, none⟩ (.slice Ao29 t919.length co29)) w0.heap.size (fun k_ => ((P0_0_ k_ ∨ P1_0_ k_) ∨ w.heap.size ≤ k_) ∧ some k_ ≠ (.slice Ao14 x914000_1.length co14 : Value).ownBlock ∧ some k_ ≠ (.slice Ao23 t916.length co23 : Value).ownBlock) (.slice Ao29 t919.length co29) t919) := ⟨by (with_reducible repeat (first | apply Kd.R_alloc | apply Kd.R_drewN | apply Kd.R_drew)); exact Kd.R_mono (Kd.R_far (p := ⟨gb924, 0, none⟩) (Kd.R_far (p := ⟨gb923, 0, none⟩) (Kd.R_types (Kd.R_types HO921.out BK923.out (by decide)) BK924.out (by decide)) (fun _ hk => hk.1.2) (.slice Ao23 t916.length co23)) (fun _ hk => hk.2) (.slice Ao29 t919.length co29)) (fun _ hk => ⟨hk.1.1.1, ⟨hk.1.1.2.2, hk.1.1.2.1⟩⟩)⟩
      have n3_ : Aside0 (((w22.setCell ⟨gb923, 0, none⟩ (.slice Ao23 t916.length co23)).setCell ⟨gb924, 0, none⟩ (.slice Ao29 t919.length co29)).heap[gb912]? = some (.cells #[.slice Ao19 x913000_1.length co19] 25 (0, 0))) := ⟨by (with_reducible repeat (first | refine blk_drewN ?_ _ | refine blk_drew ?_ | refine blk_alloc ?_ _)); refine blk_far ?_ NB912_924.out _; (with_reducible repeat (first | refine blk_drewN ?_ _ | refine blk_drew ?_ | refine blk_alloc ?_ _)); refine blk_far ?_ NB912_923.out _; (with_reducible repeat (first | refine blk_drewN ?_ _ | refine blk_drew ?_ | refine blk_alloc ?_ _)); exact BK912.out⟩
      have n4_ : Aside0 (((w22.setCell ⟨gb923, 0, none⟩ (.slice Ao23 t916.length co23)).setCell ⟨gb924, 0, none⟩ (.slice Ao29 t919.length co29)).heap[gb913]? = some (.cells #[.slice Ao14 x914000_1.length co14] 25 (0, 0))) := ⟨by (with_reducible repeat (first | refine blk_drewN ?_ _ | refine blk_drew ?_ | refine blk_alloc ?_ _)); refine blk_far ?_ NB913_924.out _; (with_reducible repeat (first | refine blk_drewN ?_ _ | refine blk_drew ?_ | refine blk_alloc ?_ _)); refine blk_far ?_ NB913_923.out _; (with_reducible repeat (first | refine blk_drewN ?_ _ | refine blk_drew ?_ | refine blk_alloc ?_ _)); exact BK913.out⟩
      have n5_ : Aside0 (((w22.setCell ⟨gb923, 0, none⟩ (.slice Ao23 t916.length co23)).setCell ⟨gb924, 0, none⟩ (.slice Ao29 t919.length co29)).heap[gb914]? = some (.cells #[.slice none 0 0] 25 (0, 0))) := ⟨by (with_reducible repeat (first | refine blk_drewN ?_ _ | refine blk_drew ?_ | refine blk_alloc ?_ _)); refine blk_far ?_ NB914_924.out _; (with_reducible repeat (first | refine blk_drewN ?_ _ | refine blk_drew ?_ | refine blk_alloc ?_ _)); refine blk_far ?_ NB914_923.out _; (with_reducible repeat (first | refine blk_drewN ?_ _ | refine blk_drew ?_ | refine blk_alloc ?_ _)); exact BK914.out⟩
      have n6_ : Aside0 (((w22.setCell ⟨gb923, 0, none⟩ (.slice Ao23 t916.length co23)).setCell ⟨gb924, 0, none⟩ (.slice Ao29 t919.length co29)).heap[gb923]? = some (.cells #[.slice Ao23 t916.length co23] 25 (0, 0))) := ⟨by (with_reducible repeat (first | refine blk_drewN ?_ _ | refine blk_drew ?_ | refine blk_alloc ?_ _)); refine blk_far ?_ NB923_924.out _; (with_reducible repeat (first | refine blk_drewN ?_ _ | refine blk_drew ?_ | refine blk_alloc ?_ _)); refine blk_put (cs := #[.slice none 0 0]) ?_ 0 _ rfl; (with_reducible repeat (first | refine blk_drewN ?_ _ | refine blk_drew ?_ | refine blk_alloc ?_ _)); exact BK923.out⟩
      have n7_ : Aside0 (((w22.setCell ⟨gb923, 0, none⟩ (.slice Ao23 t916.length co23)).setCell ⟨gb924, 0, none⟩ (.slice Ao29 t919.length co29)).heap[gb924]? = some (.cells #[.slice Ao29 t919.length co29] 25 (0, 0))) := ⟨by (with_reducible repeat (first | refine blk_drewN ?_ _ | refine blk_drew ?_ | refine blk_alloc ?_ _)); refine blk_put (cs := #[.slice none 0 0]) ?_ 0 _ rfl; (with_reducible repeat (first | refine blk_drewN ?_ _ | refine blk_drew ?_ | refine blk_alloc ?_ _)); refine blk_far ?_ NB924_923.out _; (with_reducible repeat (first | refine blk_drewN ?_ _ | refine blk_drew ?_ | refine blk_alloc ?_ _)); exact BK924.out⟩
      have n8_ : Aside0 (Kept w ((w22.setCell ⟨gb923, 0, none⟩ (.slice Ao23 t916.length co23)).setCell ⟨gb924, 0, none⟩ (.slice Ao29 t919.length co29)) (fun k_ => P0_0_ k_ ∨ P1_0_ k_)) := ⟨by repeat (first | (with_reducible first | exact HK.out | apply Kept.alloc | apply Kept.drewN | apply Kept.drew | refine Kept.setCell ?_ (.inr GW912.out) _ | refine Kept.setCell ?_ (.inr GW913.out) _ | refine Kept.setCell ?_ (.inr GW914.out) _ | refine Kept.setCell ?_ (.inr GW923.out) _ | refine Kept.setCell ?_ (.inr GW924.out) _) | exact HK.out)⟩
      have n9_ : Aside0 (Below w0.heap.size w0 ((w22.setCell ⟨gb923, 0, none⟩ (.slice Ao23 t916.length co23)).setCell ⟨gb924, 0, none⟩ (.slice Ao29 t919.length co29))) := ⟨by repeat (first | (with_reducible first | exact HB.out | apply below_alloc | apply pw_below_drewN | apply below_drew1 | refine below_set ?_ GE912.out | refine below_set ?_ GE913.out | refine below_set ?_ GE914.out | refine below_set ?_ GE923.out | refine below_set ?_ GE924.out) | exact HB.out)⟩
      (try clear HO_914000)
      (try clear HO918)
      (try clear HO921)
      (try clear BK912)
      (try clear BK913)
      (try clear BK914)
      (try clear BK923)
      (try clear BK924)
      (try clear HK)
      (try clear HB)
      generalize ((w22.setCell ⟨gb923, 0, none⟩ (.slice Ao23 t916.length co23)).setCell ⟨gb924, 0, none⟩ (.slice Ao29 t919.length co29)) = w34 at n0_ n1_ n2_ n3_ n4_ n5_ n6_ n7_ n8_ n9_ ⊢
      have HO_914000 := n0_
      have HO918 := n1_
      have HO921 := n2_
      have BK912 := n3_
      have BK913 := n4_
      have BK914 := n5_
      have BK923 := n6_
      have BK924 := n7_
      have HK := n8_
      have HB := n9_
      clear n0_ n1_ n2_ n3_ n4_ n5_ n6_ n7_ n8_ n9_
      replace HO_914000 := Aside0.mk (Kd.R_drew HO_914000.out)
      replace HO918 := Aside0.mk (Kd.R_drew HO918.out)
      replace HO921 := Aside0.mk (Kd.R_drew HO921.out)
      replace BK912 := Aside0.mk (blk_drew BK912.out)
      replace BK913 := Aside0.mk (blk_drew BK913.out)
      replace BK914 := Aside0.mk (blk_drew BK914.out)
      replace BK923 := Aside0.mk (blk_drew BK923.out)
      replace BK924 := Aside0.mk (blk_drew BK924.out)
      replace HK := Aside0.mk (Kept.drew HK.out)
      replace HB := Aside0.mk (below_drew1 HB.out)
      refine start_ (n := 4) (S := fun w' => w'.cell? ⟨gb913, 0, none⟩ = some (.slice Ao14 x914000_1.length co14) ∧ w'.cell? ⟨gb924, 0, none⟩ = some (.slice Ao29 t919.length co29)) (ds := [3]) #[false, false, false, false] (by kernel_rfl) rfl rfl ⟨(blk_cell BK913.out 0).trans rfl, (blk_cell BK924.out 0).trans rfl⟩ (fun hHeld => ?_)
      generalize w34.drew = w35 at HO_914000 HO918 HO921 BK912 BK913 BK914 BK923 BK924 HK HB hHeld ⊢
      refine take_ (i := 0) (N := some 18) (v := ?_) (a' := ?_) #[true, false, false, false] rfl rfl (by kernel_rfl) (fun _ _ _ h => h) (Or.inl ⟨by rfl, ?_⟩) hHeld ?_ ?_
      rotate_left
      · rintro w' ⟨s0, s1⟩
        go_simp
        with_reducible rfl
      rotate_left
      · simp only [Act.put, List.setIfInBounds_toArray, List.set_cons_zero, List.set_cons_succ, i64_w, i32_w]
        rfl
      refine take_ (i := 1) (N := some 19) (v := ?_) (a' := ?_) #[true, true, false, false] rfl rfl (by kernel_rfl) (fun _ _ _ h => h) (Or.inl ⟨by rfl, ?_⟩) hHeld ?_ ?_
      rotate_left
      · rintro w' ⟨s0, s1⟩
        go_simp
        with_reducible rfl
      rotate_left
      · simp only [Act.put, List.setIfInBounds_toArray, List.set_cons_zero, List.set_cons_succ, i64_w, i32_w]
        rfl
      refine one_ (i := 2) (N := none) #[true, true, true, false] rfl rfl (by kernel_rfl) (by decide) (fun K hK => ?_)
      have hs36 : w35.cell? ⟨gb912, 0, none⟩ = some (.slice Ao19 x913000_1.length co19) := (blk_cell BK912.out 0).trans rfl
      have hfs36 := blk_frozen BK912.out 0
      have hns36_1 := NB913_912.out
      have hns36_2 := NB914_912.out
      have hns36_3 := NB923_912.out
      have hns36_4 := NB924_912.out
      have hms36_1 := NB912_913.out
      have hms36_2 := NB912_914.out
      have hms36_3 := NB912_923.out
      have hms36_4 := NB912_924.out
      refine skip_ (w1 := ?_) (by rfl) rfl ?_ ?_
      rotate_left
      · go_simp
        rfl
      refine hK.out _ _ ⟨((cell_far (p := ⟨gb912, _, none⟩) NB913_912.out _).trans (hHeld.1)), ((cell_far (p := ⟨gb912, _, none⟩) NB924_912.out _).trans (hHeld.2))⟩ (fun hHeld => ?_)
      clear hK K
      refine last_ (i := 3) (N := none) #[true, true, true, true] rfl rfl (by kernel_rfl) (by decide) (fun K hK => ?_)
      have hs37 : w35.cell? ⟨gb913, 0, none⟩ = some (.slice Ao14 x914000_1.length co14) := (blk_cell BK913.out 0).trans rfl
      have hfs37 := blk_frozen BK913.out 0
      have hns37_0 := NB912_913.out
      have hns37_2 := NB914_913.out
      have hns37_3 := NB923_913.out
      have hns37_4 := NB924_913.out
      have hms37_0 := NB913_912.out
      have hms37_2 := NB913_914.out
      have hms37_3 := NB913_923.out
      have hms37_4 := NB913_924.out
      refine skip_ (w1 := ?_) (by rfl) rfl ?_ ?_
      rotate_left
      · go_simp
        rfl
      refine hK.out _ _ ?_
      clear hK K
      refine done_ (by kernel_rfl) ?_
      try go_wp2
      go_roundg k1
      case measure => have := HK1.out; omega
      case rel => exact ⟨(x914000_1), (t919), (.slice Ao14 x914000_1.length co14), (.slice Ao29 t919.length co29), H', ⟨by have := HK1.out; omega⟩, ⟨by (with_reducible repeat (first | apply Kd.R_alloc | apply Kd.R_drewN | apply Kd.R_drew)); exact Kd.R_mono (Kd.R_far (p := ⟨gb913, 0, none⟩) (Kd.R_far (p := ⟨gb912, 0, none⟩) (Kd.R_types (Kd.R_types HO_914000.out BK912.out (by decide)) BK913.out (by decide)) (fun _ hk => hk.1.2) (.slice Ao14 x914000_1.length co14)) (fun _ hk => hk.2) (.slice Ao29 t919.length co29)) (fun _ hk => ⟨hk.1.1.1, hk.1.1.2.2⟩)⟩, ⟨by (with_reducible repeat (first | apply Kd.R_alloc | apply Kd.R_drewN | apply Kd.R_drew)); exact Kd.R_mono (Kd.R_far (p := ⟨gb913, 0, none⟩) (Kd.R_far (p := ⟨gb912, 0, none⟩) (Kd.R_types (Kd.R_types HO921.out BK912.out (by decide)) BK913.out (by decide)) (fun _ hk => hk.1.2) (.slice Ao14 x914000_1.length co14)) (fun _ hk => hk.2) (.slice Ao29 t919.length co29)) (fun _ hk => ⟨hk.1.1.1, hk.1.1.2.1⟩)⟩, ⟨by (with_reducible repeat (first | refine blk_drewN ?_ _ | refine blk_drew ?_ | refine blk_alloc ?_ _)); refine blk_far ?_ NB912_913.out _; (with_reducible repeat (first | refine blk_drewN ?_ _ | refine blk_drew ?_ | refine blk_alloc ?_ _)); refine blk_put (cs := #[.slice Ao19 x913000_1.length co19]) ?_ 0 _ rfl; (with_reducible repeat (first | refine blk_drewN ?_ _ | refine blk_drew ?_ | refine blk_alloc ?_ _)); exact BK912.out⟩, ⟨by (with_reducible repeat (first | refine blk_drewN ?_ _ | refine blk_drew ?_ | refine blk_alloc ?_ _)); refine blk_put (cs := #[.slice Ao14 x914000_1.length co14]) ?_ 0 _ rfl; (with_reducible repeat (first | refine blk_drewN ?_ _ | refine blk_drew ?_ | refine blk_alloc ?_ _)); refine blk_far ?_ NB913_912.out _; (with_reducible repeat (first | refine blk_drewN ?_ _ | refine blk_drew ?_ | refine blk_alloc ?_ _)); exact BK913.out⟩, ⟨by (with_reducible repeat (first | refine blk_drewN ?_ _ | refine blk_drew ?_ | refine blk_alloc ?_ _)); refine blk_far ?_ NB914_913.out _; (with_reducible repeat (first | refine blk_drewN ?_ _ | refine blk_drew ?_ | refine blk_alloc ?_ _)); refine blk_far ?_ NB914_912.out _; (with_reducible repeat (first | refine blk_drewN ?_ _ | refine blk_drew ?_ | refine blk_alloc ?_ _)); exact BK914.out⟩, ⟨by repeat (first | (with_reducible first | exact HK.out | apply Kept.alloc | apply Kept.drewN | apply Kept.drew | refine Kept.setCell ?_ (.inr GW912.out) _ | refine Kept.setCell ?_ (.inr GW913.out) _ | refine Kept.setCell ?_ (.inr GW914.out) _ | refine Kept.setCell ?_ (.inr GW923.out) _ | refine Kept.setCell ?_ (.inr GW924.out) _) | exact HK.out)⟩, ⟨by repeat (first | (with_reducible first | exact HB.out | apply below_alloc | apply pw_below_drewN | apply below_drew1 | refine below_set ?_ GE912.out | refine below_set ?_ GE913.out | refine below_set ?_ GE914.out | refine below_set ?_ GE923.out | refine below_set ?_ GE924.out) | exact HB.out)⟩⟩
end Go.Proofs.Ytcepdndhkidehaa.PA
end
section
namespace Go.Proofs.Ytcepdndhkidehaa.PA
open Go.RowKit Go.Proofs.YtcepdndhkidehaaW.PrintWords Go.Proofs.YtcepdndhkidehaaW.PrintLast Go.Proofs.YtcepdndhkidehaaW.PrintMore
attribute [local go_sem] max2_int min2_int max_two min_two max_three min_three max_four min_four   -- for this text's walks alone
set_option linter.unusedVariables false
set_option linter.unusedSimpArgs false

/-! ### numerarylaw04_wakes: function 43 -/
def numerarylaw04_wakes.f (k : Nat)  : Option (Bool) := (nat_Of.f k 10).bind fun t925 => ((times_Pow.f k t925 20).bind fun t928 => ((nat_Of.f k 10).bind fun t931 => ((times_Pow.f k t931 10).bind fun t934 => ((quot_Div.f k t928 t934).bind fun bt937 => ((nat_Nat_Small.f k bt937.1).bind fun bt946 => ((nat_Of.f k 5).bind fun t948 => ((nat_Of.f k 2).bind fun t951 => ((quot_Half.f k t948 t951).bind fun bt954 => ((nat_Nat_Small.f k bt954.1).bind fun bt959 => ((nat_Of.f k 12).bind fun t961 => ((nat_Of.f k 18).bind fun t964 => ((quot_Gcd.f k t961 t964).bind fun t967 => ((nat_Nat_Small.f k t967).bind fun bt970 => (if bt937.2.2 = true then (if bt946.2 = true then (if bt946.1 = 10000000000 then ((nat_Nat_Bits.f bt937.2.1).bind fun t972 => (if t972 = 0 then (if bt954.2 = true then (if bt959.2 = true then (if bt959.1 = 3 then (if bt970.2 = true then (some (bt970.1 == 6)) else (some false)) else (some false)) else (some false)) else (some false)) else (some false))) else (some false)) else (some false)) else (some false)))))))))))))))
theorem numerarylaw04_wakes.mono : ∀ k, LeO (numerarylaw04_wakes.f k ) (numerarylaw04_wakes.f (k + 1) ) := by
  intro  k
  unfold numerarylaw04_wakes.f
  repeat' first
      | (with_reducible exact nat_Nat_Small.mono _ _)
      | (with_reducible exact nat_Of.mono _ _)
      | (with_reducible exact quot_Div.mono _ _ _)
      | (with_reducible exact quot_Gcd.mono _ _ _)
      | (with_reducible exact quot_Half.mono _ _ _)
      | (with_reducible exact times_Pow.mono _ _ _)
      | (with_reducible exact LeO.refl _)
      | (with_reducible exact LeO.none _)
      | (with_reducible refine LeO.ite ?_ ?_)
      | (with_reducible refine LeO.bind ?_ (fun _ => ?_))
theorem numerarylaw04_wakes.is_ : numerarylaw04_wakes.f 2000 = some true := by decide +kernel
theorem numerarylaw04_wakes.true_ {k : Nat} {r : Bool} (h : numerarylaw04_wakes.f k = some r) : r = true := by
  have h2 := at_rounds (numerarylaw04_wakes.mono) (Nat.le_max_left k 2000) h
  have h3 := at_rounds (numerarylaw04_wakes.mono) (Nat.le_max_right k 2000) numerarylaw04_wakes.is_
  exact Option.some.inj (h2.symm.trans h3)
set_option maxHeartbeats 8000000 in
set_option maxRecDepth 100000 in
theorem numerarylaw04_wakes.calls (k : Nat)  (r : Bool) (w : World) (h : numerarylaw04_wakes.f k  = some r) :
    Calls Try.prog 43 #[] w fun e w' => e = .returned (.bool r) ∧ Below w.heap.size w w' := by
  have HR_ := Aside0.mk (numerarylaw04_wakes.true_ h)
  have hu25 := Try.underlying25
  have HB := Aside0.mk (Below.refl w.heap.size w)
  have H : ((nat_Of.f k 10).bind fun t925 => ((times_Pow.f k t925 20).bind fun t928 => ((nat_Of.f k 10).bind fun t931 => ((times_Pow.f k t931 10).bind fun t934 => ((quot_Div.f k t928 t934).bind fun bt937 => ((nat_Nat_Small.f k bt937.1).bind fun bt946 => ((nat_Of.f k 5).bind fun t948 => ((nat_Of.f k 2).bind fun t951 => ((quot_Half.f k t948 t951).bind fun bt954 => ((nat_Nat_Small.f k bt954.1).bind fun bt959 => ((nat_Of.f k 12).bind fun t961 => ((nat_Of.f k 18).bind fun t964 => ((quot_Gcd.f k t961 t964).bind fun t967 => ((nat_Nat_Small.f k t967).bind fun bt970 => (if bt937.2.2 = true then (if bt946.2 = true then (if bt946.1 = 10000000000 then ((nat_Nat_Bits.f bt937.2.1).bind fun t972 => (if t972 = 0 then (if bt954.2 = true then (if bt959.2 = true then (if bt959.1 = 3 then (if bt970.2 = true then (some (bt970.1 == 6)) else (some false)) else (some false)) else (some false)) else (some false)) else (some false))) else (some false)) else (some false)) else (some false)))))))))))))))) = some r := h
  clear h
  replace H := Option.bind_eq_some_iff.mp H
  obtain ⟨t925, A10, H⟩ := H
  have A1 := Aside0.mk A10
  clear A10
  replace H := Option.bind_eq_some_iff.mp H
  obtain ⟨t928, A20, H⟩ := H
  have A2 := Aside0.mk A20
  clear A20
  replace H := Option.bind_eq_some_iff.mp H
  obtain ⟨t931, A30, H⟩ := H
  have A3 := Aside0.mk A30
  clear A30
  replace H := Option.bind_eq_some_iff.mp H
  obtain ⟨t934, A40, H⟩ := H
  have A4 := Aside0.mk A40
  clear A40
  replace H := Option.bind_eq_some_iff.mp H
  obtain ⟨⟨t937, t940, t943⟩, A50, H⟩ := H
  have A5 := Aside0.mk A50
  clear A50
  replace H := Option.bind_eq_some_iff.mp H
  obtain ⟨⟨t946, t947⟩, A60, H⟩ := H
  have A6 := Aside0.mk A60
  clear A60
  replace H := Option.bind_eq_some_iff.mp H
  obtain ⟨t948, A70, H⟩ := H
  have A7 := Aside0.mk A70
  clear A70
  replace H := Option.bind_eq_some_iff.mp H
  obtain ⟨t951, A80, H⟩ := H
  have A8 := Aside0.mk A80
  clear A80
  replace H := Option.bind_eq_some_iff.mp H
  obtain ⟨⟨t954, t957⟩, A90, H⟩ := H
  have A9 := Aside0.mk A90
  clear A90
  replace H := Option.bind_eq_some_iff.mp H
  obtain ⟨⟨t959, t960⟩, A100, H⟩ := H
  have A10 := Aside0.mk A100
  clear A100
  replace H := Option.bind_eq_some_iff.mp H
  obtain ⟨t961, A110, H⟩ := H
  have A11 := Aside0.mk A110
  clear A110
  replace H := Option.bind_eq_some_iff.mp H
  obtain ⟨t964, A120, H⟩ := H
  have A12 := Aside0.mk A120
  clear A120
  replace H := Option.bind_eq_some_iff.mp H
  obtain ⟨t967, A130, H⟩ := H
  have A13 := Aside0.mk A130
  clear A130
  replace H := Option.bind_eq_some_iff.mp H
  obtain ⟨⟨t970, t971⟩, A140, H⟩ := H
  have A14 := Aside0.mk A140
  clear A140
  by_cases c15 : t943 = true
  rotate_left
  · replace c15 := Bool.eq_false_iff.mpr c15
    subst c15
    have H1 : (some false) = some r := by rw [if_neg (show ¬ (false = true) by decide)] at H; exact H
    clear H
    have H := H1
    clear H1
    exact absurd (H.trans (congrArg some HR_.out)) (by simp)

  subst c15
  have H1 : (if t947 = true then (if t946 = 10000000000 then ((nat_Nat_Bits.f t940).bind fun t972 => (if t972 = 0 then (if t957 = true then (if t960 = true then (if t959 = 3 then (if t971 = true then (some (t970 == 6)) else (some false)) else (some false)) else (some false)) else (some false)) else (some false))) else (some false)) else (some false)) = some r := by rw [if_pos rfl] at H; exact H
  clear H
  have H := H1
  clear H1
  by_cases c16 : t947 = true
  rotate_left
  · replace c16 := Bool.eq_false_iff.mpr c16
    subst c16
    have H1 : (some false) = some r := by rw [if_neg (show ¬ (false = true) by decide)] at H; exact H
    clear H
    have H := H1
    clear H1
    exact absurd (H.trans (congrArg some HR_.out)) (by simp)
  subst c16
  have H1 : (if t946 = 10000000000 then ((nat_Nat_Bits.f t940).bind fun t972 => (if t972 = 0 then (if t957 = true then (if t960 = true then (if t959 = 3 then (if t971 = true then (some (t970 == 6)) else (some false)) else (some false)) else (some false)) else (some false)) else (some false))) else (some false)) = some r := by rw [if_pos rfl] at H; exact H
  clear H
  have H := H1
  clear H1
  by_cases c17 : t946 = 10000000000
  rotate_left
  · rw [if_neg c17] at H
    exact absurd (H.trans (congrArg some HR_.out)) (by simp)
  rw [if_pos c17] at H
  have c17b0 : (t946 == 10000000000) = true := beq_iff_eq.mpr c17
  have c17b1 : (t946 != 10000000000) = false := bne_eq_false_iff_eq.mpr c17
  clear c17
  replace H := Option.bind_eq_some_iff.mp H
  obtain ⟨t972, A180, H⟩ := H
  have A18 := Aside0.mk A180
  clear A180
  by_cases c19 : t972 = 0
  rotate_left
  · rw [if_neg c19] at H
    exact absurd (H.trans (congrArg some HR_.out)) (by simp)
  rw [if_pos c19] at H
  have c19b0 : (t972 == 0) = true := beq_iff_eq.mpr c19
  have c19b1 : (t972 != 0) = false := bne_eq_false_iff_eq.mpr c19
  clear c19
  by_cases c20 : t957 = true
  rotate_left
  · replace c20 := Bool.eq_false_iff.mpr c20
    subst c20
    have H1 : (some false) = some r := by rw [if_neg (show ¬ (false = true) by decide)] at H; exact H
    clear H
    have H := H1
    clear H1
    exact absurd (H.trans (congrArg some HR_.out)) (by simp)
  subst c20
  have H1 : (if t960 = true then (if t959 = 3 then (if t971 = true then (some (t970 == 6)) else (some false)) else (some false)) else (some false)) = some r := by rw [if_pos rfl] at H; exact H
  clear H
  have H := H1
  clear H1
  by_cases c21 : t960 = true
  rotate_left
  · replace c21 := Bool.eq_false_iff.mpr c21
    subst c21
    have H1 : (some false) = some r := by rw [if_neg (show ¬ (false = true) by decide)] at H; exact H
    clear H
    have H := H1
    clear H1
    exact absurd (H.trans (congrArg some HR_.out)) (by simp)
  subst c21
  have H1 : (if t959 = 3 then (if t971 = true then (some (t970 == 6)) else (some false)) else (some false)) = some r := by rw [if_pos rfl] at H; exact H
  clear H
  have H := H1
  clear H1
  by_cases c22 : t959 = 3
  rotate_left
  · rw [if_neg c22] at H
    exact absurd (H.trans (congrArg some HR_.out)) (by simp)
  rw [if_pos c22] at H
  have c22b0 : (t959 == 3) = true := beq_iff_eq.mpr c22
  have c22b1 : (t959 != 3) = false := bne_eq_false_iff_eq.mpr c22
  clear c22
  by_cases c23 : t971 = true
  rotate_left
  · replace c23 := Bool.eq_false_iff.mpr c23
    subst c23
    have H1 : (some false) = some r := by rw [if_neg (show ¬ (false = true) by decide)] at H; exact H
    clear H
    have H := H1
    clear H1
    exact absurd (H.trans (congrArg some HR_.out)) (by simp)
  subst c23
  have H1 : (some (t970 == 6)) = some r := by rw [if_pos rfl] at H; exact H
  clear H
  have H := H1
  clear H1
  obtain rfl := Option.some.inj H
  go_enter Try.func43, Try.ntmps43
  go_wp2_with (first | ((with_reducible refine gate_callee (f := 26) rfl ?_); refine goesL_ (some 13) rfl rfl Try.func26 (by kernel_rfl) rfl #[.int .u64 10] rfl (by (try simp only [List.map_toArray, List.map_cons, List.map_nil]); first | done | rfl | (simp only [List.length_drop, List.length_take]; rfl)) ?_; (with_reducible refine (nat_Of.calls k 10 t925 _ A1.out).mono ?_); rintro e w24 ⟨v926, rfl, ho0, hb⟩; refine ⟨_, rfl, ?_⟩; have HO927 := Aside0.mk (Kd.R_lower ho0 (below_size (by repeat (first | (with_reducible first | exact HB.out | apply below_alloc | apply pw_below_drewN | apply below_drew1) | exact HB.out)))); replace HB := Aside0.mk (below_step (by repeat (first | (with_reducible first | exact HB.out | apply below_alloc | apply pw_below_drewN | apply below_drew1) | exact HB.out)) hb); obtain ⟨Ao25, co25, eo25⟩ := Kd.R_slice HO927.out; subst eo25) | ((with_reducible refine gate_callee (f := 28) rfl ?_); refine goesL_ (some 14) rfl rfl Try.func28 (by kernel_rfl) rfl #[.agg #[.slice Ao25 t925.length co25], .int .i64 20] rfl (by (try simp only [List.map_toArray, List.map_cons, List.map_nil]); first | done | rfl | (simp only [List.length_drop, List.length_take]; rfl)) ?_; (with_reducible refine (times_Pow.calls k (fun k_ => some k_ = (.slice Ao25 t925.length co25 : Value).ownBlock) _ _ t925 20 t928 _ ?side1 A2.out).mono ?_); (case side1 => exact Kd.R_V (Kd.R_tight rfl (HO927.out))); rintro e w26 ⟨v929, rfl, ho0, hb⟩; refine ⟨_, rfl, ?_⟩; have HO930 := Aside0.mk (Kd.R_lower (Kd.R_new' (Kd.R_mono (ok' := fun k_ => True) ho0 (fun _ hk_ => trivial)) (Kd.R_lt HO927.out)) (below_size (by repeat (first | (with_reducible first | exact HB.out | apply below_alloc | apply pw_below_drewN | apply below_drew1) | exact HB.out)))); replace HO927 := Aside0.mk (Kd.R_elder' HO927.out (Kd.R_base ho0) hb); replace HB := Aside0.mk (below_step (by repeat (first | (with_reducible first | exact HB.out | apply below_alloc | apply pw_below_drewN | apply below_drew1) | exact HB.out)) hb)) | ((with_reducible refine gate_callee (f := 26) rfl ?_); refine goesL_ (some 15) rfl rfl Try.func26 (by kernel_rfl) rfl #[.int .u64 10] rfl (by (try simp only [List.map_toArray, List.map_cons, List.map_nil]); first | done | rfl | (simp only [List.length_drop, List.length_take]; rfl)) ?_; (with_reducible refine (nat_Of.calls k 10 t931 _ A3.out).mono ?_); rintro e w27 ⟨v932, rfl, ho0, hb⟩; refine ⟨_, rfl, ?_⟩; have HO933 := Aside0.mk (Kd.R_lower (Kd.R_new' (Kd.R_new' ho0 (Kd.R_lt HO927.out)) (Kd.R_lt HO930.out)) (below_size (by repeat (first | (with_reducible first | exact HB.out | apply below_alloc | apply pw_below_drewN | apply below_drew1) | exact HB.out)))); replace HO927 := Aside0.mk (Kd.R_elder' HO927.out (Kd.R_base ho0) hb); replace HO930 := Aside0.mk (Kd.R_elder' HO930.out (Kd.R_base ho0) hb); replace HB := Aside0.mk (below_step (by repeat (first | (with_reducible first | exact HB.out | apply below_alloc | apply pw_below_drewN | apply below_drew1) | exact HB.out)) hb); obtain ⟨Ao28, co28, eo28⟩ := Kd.R_slice HO933.out; subst eo28) | ((with_reducible refine gate_callee (f := 28) rfl ?_); refine goesL_ (some 16) rfl rfl Try.func28 (by kernel_rfl) rfl #[.agg #[.slice Ao28 t931.length co28], .int .i64 10] rfl (by (try simp only [List.map_toArray, List.map_cons, List.map_nil]); first | done | rfl | (simp only [List.length_drop, List.length_take]; rfl)) ?_; (with_reducible refine (times_Pow.calls k (fun k_ => some k_ = (.slice Ao28 t931.length co28 : Value).ownBlock) _ _ t931 10 t934 _ ?side1 A4.out).mono ?_); (case side1 => exact Kd.R_V (Kd.R_tight rfl (HO933.out))); rintro e w29 ⟨v935, rfl, ho0, hb⟩; refine ⟨_, rfl, ?_⟩; have HO936 := Aside0.mk (Kd.R_lower (Kd.R_new' (Kd.R_new' (Kd.R_new' (Kd.R_mono (ok' := fun k_ => True) ho0 (fun _ hk_ => trivial)) (Kd.R_lt HO927.out)) (Kd.R_lt HO930.out)) (Kd.R_lt HO933.out)) (below_size (by repeat (first | (with_reducible first | exact HB.out | apply below_alloc | apply pw_below_drewN | apply below_drew1) | exact HB.out)))); replace HO927 := Aside0.mk (Kd.R_elder' HO927.out (Kd.R_base ho0) hb); replace HO930 := Aside0.mk (Kd.R_elder' HO930.out (Kd.R_base ho0) hb); replace HO933 := Aside0.mk (Kd.R_elder' HO933.out (Kd.R_base ho0) hb); replace HB := Aside0.mk (below_step (by repeat (first | (with_reducible first | exact HB.out | apply below_alloc | apply pw_below_drewN | apply below_drew1) | exact HB.out)) hb); obtain ⟨Ao30, co30, eo30⟩ := Kd.R_slice HO930.out; subst eo30; obtain ⟨Ao31, co31, eo31⟩ := Kd.R_slice HO936.out; subst eo31) | ((with_reducible refine gate_callee (f := 42) rfl ?_); refine goesL_ (some 17) rfl rfl Try.func42 (by kernel_rfl) rfl #[.agg #[.slice Ao30 t928.length co30], .agg #[.slice Ao31 t934.length co31]] rfl (by (try simp only [List.map_toArray, List.map_cons, List.map_nil]); first | done | rfl | (simp only [List.length_drop, List.length_take]; rfl)) ?_; (with_reducible refine (quot_Div.calls k (fun k_ => some k_ = (.slice Ao30 t928.length co30 : Value).ownBlock) (.slice Ao30 t928.length co30) t928 _ _ t934 t937 t940 true w _ ?side1 ?side2 ?side3 ?side4 A5.out).mono ?_); (case side1 => repeat (first | (with_reducible first | exact HB.out | apply below_alloc | apply pw_below_drewN | apply below_drew1) | exact HB.out)); (case side2 => exact Kd.R_tight rfl HO930.out); (case side3 => exact Kd.C_kept_own (HO936.out) (fun k_ hk_ hs_ => (hk_.1.2) hs_)); (case side4 => exact (Kd.R_reads' HO936.out).2.1); rintro e w32 ⟨v938, v941, rfl, ho0, ho1, hb, hkp⟩; refine ⟨_, rfl, ?_⟩; have n0_ := Aside0.mk (Kd.R_mono (ok' := fun k_ => some k_ ≠ (.slice Ao28 t931.length co28 : Value).ownBlock ∧ some k_ ≠ (.slice Ao31 t934.length co31 : Value).ownBlock ∧ some k_ ≠ (v938 : Value).ownBlock ∧ some k_ ≠ (v941 : Value).ownBlock) (Kd.R_keptB (HO927.out) hkp (fun k_ hk_ hs_ => (hk_.1.1.2) hs_)) (fun k_ hk_ => ⟨hk_.1.1.2, hk_.1.2, fun e_ => Or.elim (ho0.1 k_ e_.symm).1 (fun hs_ => hk_.2.1 hs_) (fun hn_ => Nat.not_le.2 hk_.2.2 hn_), fun e_ => Or.elim (ho1.1 k_ e_.symm).1 (fun hs_ => hk_.2.1 hs_) (fun hn_ => Nat.not_le.2 hk_.2.2 hn_)⟩)); have n1_ := Aside0.mk (Kd.R_mono (ok' := fun k_ => some k_ ≠ (.slice Ao25 t925.length co25 : Value).ownBlock ∧ some k_ ≠ (.slice Ao31 t934.length co31 : Value).ownBlock ∧ some k_ ≠ (v938 : Value).ownBlock ∧ some k_ ≠ (v941 : Value).ownBlock) (Kd.R_keptB (HO933.out) hkp (fun k_ hk_ hs_ => (hk_.1.2) hs_)) (fun k_ hk_ => ⟨hk_.1.1.1.2, hk_.1.2, fun e_ => Or.elim (ho0.1 k_ e_.symm).1 (fun hs_ => hk_.2.1 hs_) (fun hn_ => Nat.not_le.2 hk_.2.2 hn_), fun e_ => Or.elim (ho1.1 k_ e_.symm).1 (fun hs_ => hk_.2.1 hs_) (fun hn_ => Nat.not_le.2 hk_.2.2 hn_)⟩)); have n2_ := Aside0.mk (Kd.R_mono (ok' := fun k_ => some k_ ≠ (.slice Ao25 t925.length co25 : Value).ownBlock ∧ some k_ ≠ (.slice Ao28 t931.length co28 : Value).ownBlock ∧ some k_ ≠ (v938 : Value).ownBlock ∧ some k_ ≠ (v941 : Value).ownBlock) (Kd.R_keptB (HO936.out) hkp (fun k_ hk_ hs_ => (hk_.1.2) hs_)) (fun k_ hk_ => ⟨hk_.1.1.1.2, hk_.1.2, fun e_ => Or.elim (ho0.1 k_ e_.symm).1 (fun hs_ => hk_.2.1 hs_) (fun hn_ => Nat.not_le.2 hk_.2.2 hn_), fun e_ => Or.elim (ho1.1 k_ e_.symm).1 (fun hs_ => hk_.2.1 hs_) (fun hn_ => Nat.not_le.2 hk_.2.2 hn_)⟩)); have n3_ := Aside0.mk (Kd.R_mono (ok' := fun k_ => some k_ ≠ (v941 : Value).ownBlock ∧ some k_ ≠ (.slice Ao25 t925.length co25 : Value).ownBlock ∧ some k_ ≠ (.slice Ao28 t931.length co28 : Value).ownBlock ∧ some k_ ≠ (.slice Ao31 t934.length co31 : Value).ownBlock) ho0 (fun k_ hk_ => ⟨hk_.2, Or.elim hk_.1 (fun hs_ => fun e_ => (((HO927.out).1 k_ e_.symm).1.1.2) hs_) (fun hn_ => (Kd.fresh' (Kd.R_lt HO927.out) k_ hn_)), Or.elim hk_.1 (fun hs_ => fun e_ => (((HO933.out).1 k_ e_.symm).1.2) hs_) (fun hn_ => (Kd.fresh' (Kd.R_lt HO933.out) k_ hn_)), Or.elim hk_.1 (fun hs_ => fun e_ => (((HO936.out).1 k_ e_.symm).1.2) hs_) (fun hn_ => (Kd.fresh' (Kd.R_lt HO936.out) k_ hn_))⟩)); have n4_ := Aside0.mk (Kd.R_mono (ok' := fun k_ => some k_ ≠ (v938 : Value).ownBlock ∧ some k_ ≠ (.slice Ao25 t925.length co25 : Value).ownBlock ∧ some k_ ≠ (.slice Ao28 t931.length co28 : Value).ownBlock ∧ some k_ ≠ (.slice Ao31 t934.length co31 : Value).ownBlock) ho1 (fun k_ hk_ => ⟨hk_.2, Or.elim hk_.1 (fun hs_ => fun e_ => (((HO927.out).1 k_ e_.symm).1.1.2) hs_) (fun hn_ => (Kd.fresh' (Kd.R_lt HO927.out) k_ hn_)), Or.elim hk_.1 (fun hs_ => fun e_ => (((HO933.out).1 k_ e_.symm).1.2) hs_) (fun hn_ => (Kd.fresh' (Kd.R_lt HO933.out) k_ hn_)), Or.elim hk_.1 (fun hs_ => fun e_ => (((HO936.out).1 k_ e_.symm).1.2) hs_) (fun hn_ => (Kd.fresh' (Kd.R_lt HO936.out) k_ hn_))⟩)); have n5_ := Aside0.mk (hb); clear HO927; clear HO933; clear HO936; clear HB; clear HO930; have HO927 := n0_; have HO933 := n1_; have HO936 := n2_; have HO939 := n3_; have HO942 := n4_; have HB := n5_; clear n0_ n1_ n2_ n3_ n4_ n5_; (try clear ho1)) | ((with_reducible refine gate_dst (N := 1) rfl ?_); refine box_event ?hg (N := 1) ?hd (cs := #[.slice none 0 0]) (t := 25) ?hr ?_; (case hd => rfl); (case hg => rfl); (case hr => first | (go_simp; done) | (go_simp; rfl)); intro gb944 hg w33 hbox hb; replace HO927 := Aside0.mk (Kd.R_below HO927.out hb); replace HO933 := Aside0.mk (Kd.R_below HO933.out hb); replace HO936 := Aside0.mk (Kd.R_below HO936.out hb); replace HO939 := Aside0.mk (Kd.R_below HO939.out hb); replace HO942 := Aside0.mk (Kd.R_below HO942.out hb); have BK944 := Aside0.mk (hbox); have GW944 := Aside0.mk ((by rw [hg]; exact (below_size (by repeat (first | (with_reducible first | exact HB.out | apply below_alloc | apply pw_below_drewN | apply below_drew1) | exact HB.out))) : w.heap.size ≤ gb944)); have GE944 := Aside0.mk ((by rw [hg]; exact (below_size (by repeat (first | (with_reducible first | exact HB.out | apply below_alloc | apply pw_below_drewN | apply below_drew1) | exact HB.out))) : w.heap.size ≤ gb944)); replace HB := Aside0.mk (below_step (by repeat (first | (with_reducible first | exact HB.out | apply below_alloc | apply pw_below_drewN | apply below_drew1) | exact HB.out)) hb); clear hb hbox hg) | ((with_reducible refine gate_dst (N := 2) rfl ?_); refine box_event ?hg (N := 2) ?hd (cs := #[.slice none 0 0]) (t := 25) ?hr ?_; (case hd => rfl); (case hg => rfl); (case hr => first | (go_simp; done) | (go_simp; rfl)); intro gb945 hg w34 hbox hb; replace HO927 := Aside0.mk (Kd.R_below HO927.out hb); replace HO933 := Aside0.mk (Kd.R_below HO933.out hb); replace HO936 := Aside0.mk (Kd.R_below HO936.out hb); replace HO939 := Aside0.mk (Kd.R_below HO939.out hb); replace HO942 := Aside0.mk (Kd.R_below HO942.out hb); have BK945 := Aside0.mk (hbox); have GW945 := Aside0.mk ((by rw [hg]; exact (below_size (by repeat (first | (with_reducible first | exact HB.out | apply below_alloc | apply pw_below_drewN | apply below_drew1 | refine below_set ?_ GE944.out) | exact HB.out))) : w.heap.size ≤ gb945)); have GE945 := Aside0.mk ((by rw [hg]; exact (below_size (by repeat (first | (with_reducible first | exact HB.out | apply below_alloc | apply pw_below_drewN | apply below_drew1 | refine below_set ?_ GE944.out) | exact HB.out))) : w.heap.size ≤ gb945)); replace HB := Aside0.mk (below_step (by repeat (first | (with_reducible first | exact HB.out | apply below_alloc | apply pw_below_drewN | apply below_drew1 | refine below_set ?_ GE944.out) | exact HB.out)) hb); have NB944_945 := Aside0.mk ((by rw [hg]; exact Nat.ne_of_lt (blk_lt (g := gb944) (o := .cells #[.slice none 0 0] 25 (0, 0)) BK944.out) : gb944 ≠ gb945)); have NB945_944 := Aside0.mk ((by rw [hg]; exact Nat.ne_of_gt (blk_lt (g := gb944) (o := .cells #[.slice none 0 0] 25 (0, 0)) BK944.out) : gb945 ≠ gb944)); replace BK944 := Aside0.mk (blk_below (g := gb944) (o := .cells #[.slice none 0 0] 25 (0, 0)) BK944.out hb); clear hb hbox hg; obtain ⟨Ao35, co35, eo35⟩ := Kd.R_slice HO939.out; subst eo35; have hnb36 := NB944_945.out; have hnc36 := NB945_944.out; have hcz37_0 : w34.cell? ⟨gb944, 0, none⟩ = some (.slice none 0 0) := (blk_cell BK944.out 0).trans rfl; have hfz37_0 := blk_frozen BK944.out 0; obtain ⟨Ao38, co38, eo38⟩ := Kd.R_slice HO942.out; subst eo38; have hcz39_0 : w34.cell? ⟨gb945, 0, none⟩ = some (.slice none 0 0) := (blk_cell BK945.out 0).trans rfl; have hfz39_0 := blk_frozen BK945.out 0) | ((with_reducible refine gate_callee (f := 29) rfl ?_); refine goesL_ (some 23) rfl rfl Try.func29 (by kernel_rfl) rfl #[.agg #[.slice Ao35 t937.length co35]] rfl (by (try simp only [List.map_toArray, List.map_cons, List.map_nil]); first | done | rfl | (simp only [List.length_drop, List.length_take]; rfl)) ?_; (with_reducible refine (nat_Nat_Small.calls k _ _ t937 t946 true _ ?side1 ?side2 A6.out).mono ?_); (case side1 => exact (Kd.R_reads' (e := 23) (base := w.heap.size) (n := t937.length) (c := co35) (by exact (Kd.R_mono (Kd.R_mono (Kd.R_far (p := ⟨gb945, 0, none⟩) (Kd.R_far (p := ⟨gb944, 0, none⟩) (Kd.R_types (Kd.R_types HO939.out BK944.out (by decide)) BK945.out (by decide)) (fun _ hk => hk.1.2) (.slice Ao35 t937.length co35)) (fun _ hk => hk.2) (.slice Ao38 t940.length co38)) (fun _ h_ => h_.1)) (fun _ h_ => h_.1)))).2.2); (case side2 => exact (Kd.R_reads' HO939.out).2.1); rintro e w40 ⟨rfl, hb⟩; refine ⟨_, rfl, ?_⟩; replace HO927 := Aside0.mk (Kd.R_below (by exact (Kd.R_mono (Kd.R_mono (Kd.R_far (p := ⟨gb945, 0, none⟩) (Kd.R_far (p := ⟨gb944, 0, none⟩) (Kd.R_types (Kd.R_types HO927.out BK944.out (by decide)) BK945.out (by decide)) (fun _ hk => hk.1.2) (.slice Ao35 t937.length co35)) (fun _ hk => hk.2) (.slice Ao38 t940.length co38)) (fun _ h_ => h_.1)) (fun _ h_ => h_.1))) hb); replace HO933 := Aside0.mk (Kd.R_below (by exact (Kd.R_mono (Kd.R_mono (Kd.R_far (p := ⟨gb945, 0, none⟩) (Kd.R_far (p := ⟨gb944, 0, none⟩) (Kd.R_types (Kd.R_types HO933.out BK944.out (by decide)) BK945.out (by decide)) (fun _ hk => hk.1.2) (.slice Ao35 t937.length co35)) (fun _ hk => hk.2) (.slice Ao38 t940.length co38)) (fun _ h_ => h_.1)) (fun _ h_ => h_.1))) hb); replace HO936 := Aside0.mk (Kd.R_below (by exact (Kd.R_mono (Kd.R_mono (Kd.R_far (p := ⟨gb945, 0, none⟩) (Kd.R_far (p := ⟨gb944, 0, none⟩) (Kd.R_types (Kd.R_types HO936.out BK944.out (by decide)) BK945.out (by decide)) (fun _ hk => hk.1.2) (.slice Ao35 t937.length co35)) (fun _ hk => hk.2) (.slice Ao38 t940.length co38)) (fun _ h_ => h_.1)) (fun _ h_ => h_.1))) hb); replace HO939 := Aside0.mk (Kd.R_below (by exact (Kd.R_mono (Kd.R_mono (Kd.R_far (p := ⟨gb945, 0, none⟩) (Kd.R_far (p := ⟨gb944, 0, none⟩) (Kd.R_types (Kd.R_types HO939.out BK944.out (by decide)) BK945.out (by decide)) (fun _ hk => hk.1.2) (.slice Ao35 t937.length co35)) (fun _ hk => hk.2) (.slice Ao38 t940.length co38)) (fun _ h_ => h_.1)) (fun _ h_ => h_.1))) hb); replace HO942 := Aside0.mk (Kd.R_below (by exact (Kd.R_mono (Kd.R_mono (Kd.R_far (p := ⟨gb945, 0, none⟩) (Kd.R_far (p := ⟨gb944, 0, none⟩) (Kd.R_types (Kd.R_types HO942.out BK944.out (by decide)) BK945.out (by decide)) (fun _ hk => hk.1.2) (.slice Ao35 t937.length co35)) (fun _ hk => hk.2) (.slice Ao38 t940.length co38)) (fun _ h_ => h_.1)) (fun _ h_ => h_.1))) hb); replace BK944 := Aside0.mk (blk_below (g := gb944) (o := .cells #[.slice Ao35 t937.length co35] 25 (0, 0)) (by (with_reducible repeat (first | refine blk_drewN ?_ _ | refine blk_drew ?_ | refine blk_alloc ?_ _)); refine blk_far ?_ NB944_945.out _; (with_reducible repeat (first | refine blk_drewN ?_ _ | refine blk_drew ?_ | refine blk_alloc ?_ _)); refine blk_put (cs := #[.slice none 0 0]) ?_ 0 _ rfl; (with_reducible repeat (first | refine blk_drewN ?_ _ | refine blk_drew ?_ | refine blk_alloc ?_ _)); exact BK944.out) hb); replace BK945 := Aside0.mk (blk_below (g := gb945) (o := .cells #[.slice Ao38 t940.length co38] 25 (0, 0)) (by (with_reducible repeat (first | refine blk_drewN ?_ _ | refine blk_drew ?_ | refine blk_alloc ?_ _)); refine blk_put (cs := #[.slice none 0 0]) ?_ 0 _ rfl; (with_reducible repeat (first | refine blk_drewN ?_ _ | refine blk_drew ?_ | refine blk_alloc ?_ _)); refine blk_far ?_ NB945_944.out _; (with_reducible repeat (first | refine blk_drewN ?_ _ | refine blk_drew ?_ | refine blk_alloc ?_ _)); exact BK945.out) hb); replace HB := Aside0.mk (below_step (by repeat (first | (with_reducible first | exact HB.out | apply below_alloc | apply pw_below_drewN | apply below_drew1 | refine below_set ?_ GE944.out | refine below_set ?_ GE945.out) | exact HB.out)) hb)) | ((with_reducible refine gate_callee (f := 26) rfl ?_); refine goesL_ (some 27) rfl rfl Try.func26 (by kernel_rfl) rfl #[.int .u64 5] rfl (by (try simp only [List.map_toArray, List.map_cons, List.map_nil]); first | done | rfl | (simp only [List.length_drop, List.length_take]; rfl)) ?_; (with_reducible refine (nat_Of.calls k 5 t948 _ A7.out).mono ?_); rintro e w41 ⟨v949, rfl, ho0, hb⟩; refine ⟨_, rfl, ?_⟩; have HO950 := Aside0.mk (Kd.R_lower (Kd.R_new' (Kd.R_new' (Kd.R_new' (Kd.R_new' (Kd.R_new' ho0 (Kd.R_lt HO927.out)) (Kd.R_lt HO933.out)) (Kd.R_lt HO936.out)) (Kd.R_lt HO939.out)) (Kd.R_lt HO942.out)) (below_size (by repeat (first | (with_reducible first | exact HB.out | apply below_alloc | apply pw_below_drewN | apply below_drew1 | refine below_set ?_ GE944.out | refine below_set ?_ GE945.out) | exact HB.out)))); replace HO927 := Aside0.mk (Kd.R_elder' HO927.out (Kd.R_base ho0) hb); replace HO933 := Aside0.mk (Kd.R_elder' HO933.out (Kd.R_base ho0) hb); replace HO936 := Aside0.mk (Kd.R_elder' HO936.out (Kd.R_base ho0) hb); replace HO939 := Aside0.mk (Kd.R_elder' HO939.out (Kd.R_base ho0) hb); replace HO942 := Aside0.mk (Kd.R_elder' HO942.out (Kd.R_base ho0) hb); replace BK944 := Aside0.mk (blk_below (g := gb944) (o := .cells #[.slice Ao35 t937.length co35] 25 (0, 0)) BK944.out hb); replace BK945 := Aside0.mk (blk_below (g := gb945) (o := .cells #[.slice Ao38 t940.length co38] 25 (0, 0)) BK945.out hb); replace HB := Aside0.mk (below_step (by repeat (first | (with_reducible first | exact HB.out | apply below_alloc | apply pw_below_drewN | apply below_drew1 | refine below_set ?_ GE944.out | refine below_set ?_ GE945.out) | exact HB.out)) hb)) | ((with_reducible refine gate_callee (f := 26) rfl ?_); refine goesL_ (some 28) rfl rfl Try.func26 (by kernel_rfl) rfl #[.int .u64 2] rfl (by (try simp only [List.map_toArray, List.map_cons, List.map_nil]); first | done | rfl | (simp only [List.length_drop, List.length_take]; rfl)) ?_; (with_reducible refine (nat_Of.calls k 2 t951 _ A8.out).mono ?_); rintro e w42 ⟨v952, rfl, ho0, hb⟩; refine ⟨_, rfl, ?_⟩; have HO953 := Aside0.mk (Kd.R_lower (Kd.R_new' (Kd.R_new' (Kd.R_new' (Kd.R_new' (Kd.R_new' (Kd.R_new' ho0 (Kd.R_lt HO927.out)) (Kd.R_lt HO933.out)) (Kd.R_lt HO936.out)) (Kd.R_lt HO939.out)) (Kd.R_lt HO942.out)) (Kd.R_lt HO950.out)) (below_size (by repeat (first | (with_reducible first | exact HB.out | apply below_alloc | apply pw_below_drewN | apply below_drew1 | refine below_set ?_ GE944.out | refine below_set ?_ GE945.out) | exact HB.out)))); replace HO927 := Aside0.mk (Kd.R_elder' HO927.out (Kd.R_base ho0) hb); replace HO933 := Aside0.mk (Kd.R_elder' HO933.out (Kd.R_base ho0) hb); replace HO936 := Aside0.mk (Kd.R_elder' HO936.out (Kd.R_base ho0) hb); replace HO939 := Aside0.mk (Kd.R_elder' HO939.out (Kd.R_base ho0) hb); replace HO942 := Aside0.mk (Kd.R_elder' HO942.out (Kd.R_base ho0) hb); replace HO950 := Aside0.mk (Kd.R_elder' HO950.out (Kd.R_base ho0) hb); replace BK944 := Aside0.mk (blk_below (g := gb944) (o := .cells #[.slice Ao35 t937.length co35] 25 (0, 0)) BK944.out hb); replace BK945 := Aside0.mk (blk_below (g := gb945) (o := .cells #[.slice Ao38 t940.length co38] 25 (0, 0)) BK945.out hb); replace HB := Aside0.mk (below_step (by repeat (first | (with_reducible first | exact HB.out | apply below_alloc | apply pw_below_drewN | apply below_drew1 | refine below_set ?_ GE944.out | refine below_set ?_ GE945.out) | exact HB.out)) hb); obtain ⟨Ao43, co43, eo43⟩ := Kd.R_slice HO950.out; subst eo43; obtain ⟨Ao44, co44, eo44⟩ := Kd.R_slice HO953.out; subst eo44) | ((with_reducible refine gate_callee (f := 46) rfl ?_); refine goesL_ (some 29) rfl rfl Try.func46 (by kernel_rfl) rfl #[.agg #[.slice Ao43 t948.length co43], .agg #[.slice Ao44 t951.length co44]] rfl (by (try simp only [List.map_toArray, List.map_cons, List.map_nil]); first | done | rfl | (simp only [List.length_drop, List.length_take]; rfl)) ?_; (with_reducible refine (quot_Half.calls k (fun k_ => some k_ = (.slice Ao43 t948.length co43 : Value).ownBlock) (.slice Ao43 t948.length co43) t948 _ _ t951 t954 true w _ ?side1 ?side2 ?side3 ?side4 A9.out).mono ?_); (case side1 => repeat (first | (with_reducible first | exact HB.out | apply below_alloc | apply pw_below_drewN | apply below_drew1 | refine below_set ?_ GE944.out | refine below_set ?_ GE945.out) | exact HB.out)); (case side2 => exact Kd.R_tight rfl HO950.out); (case side3 => exact Kd.C_kept_own (HO953.out) (fun k_ hk_ hs_ => (hk_.2) hs_)); (case side4 => exact (Kd.R_reads' HO953.out).2.1); rintro e w45 ⟨v955, rfl, ho0, hb, hkp⟩; refine ⟨_, rfl, ?_⟩; have n0_ := Aside0.mk (Kd.R_mono (ok' := fun k_ => some k_ ≠ (.slice Ao28 t931.length co28 : Value).ownBlock ∧ some k_ ≠ (.slice Ao31 t934.length co31 : Value).ownBlock ∧ some k_ ≠ (.slice Ao35 t937.length co35 : Value).ownBlock ∧ some k_ ≠ (.slice Ao38 t940.length co38 : Value).ownBlock ∧ some k_ ≠ (.slice Ao44 t951.length co44 : Value).ownBlock ∧ some k_ ≠ (v955 : Value).ownBlock) (Kd.R_keptB (HO927.out) hkp (fun k_ hk_ hs_ => (hk_.1.2) hs_)) (fun k_ hk_ => ⟨hk_.1.1.1.1, hk_.1.1.1.2.1, hk_.1.1.1.2.2.1, hk_.1.1.1.2.2.2, hk_.1.2, fun e_ => Or.elim (ho0.1 k_ e_.symm) (fun hs_ => hk_.2.1 hs_) (fun hn_ => Nat.not_le.2 hk_.2.2 hn_)⟩)); have n1_ := Aside0.mk (Kd.R_mono (ok' := fun k_ => some k_ ≠ (.slice Ao25 t925.length co25 : Value).ownBlock ∧ some k_ ≠ (.slice Ao31 t934.length co31 : Value).ownBlock ∧ some k_ ≠ (.slice Ao35 t937.length co35 : Value).ownBlock ∧ some k_ ≠ (.slice Ao38 t940.length co38 : Value).ownBlock ∧ some k_ ≠ (.slice Ao44 t951.length co44 : Value).ownBlock ∧ some k_ ≠ (v955 : Value).ownBlock) (Kd.R_keptB (HO933.out) hkp (fun k_ hk_ hs_ => (hk_.1.2) hs_)) (fun k_ hk_ => ⟨hk_.1.1.1.1, hk_.1.1.1.2.1, hk_.1.1.1.2.2.1, hk_.1.1.1.2.2.2, hk_.1.2, fun e_ => Or.elim (ho0.1 k_ e_.symm) (fun hs_ => hk_.2.1 hs_) (fun hn_ => Nat.not_le.2 hk_.2.2 hn_)⟩)); have n2_ := Aside0.mk (Kd.R_mono (ok' := fun k_ => some k_ ≠ (.slice Ao25 t925.length co25 : Value).ownBlock ∧ some k_ ≠ (.slice Ao28 t931.length co28 : Value).ownBlock ∧ some k_ ≠ (.slice Ao35 t937.length co35 : Value).ownBlock ∧ some k_ ≠ (.slice Ao38 t940.length co38 : Value).ownBlock ∧ some k_ ≠ (.slice Ao44 t951.length co44 : Value).ownBlock ∧ some k_ ≠ (v955 : Value).ownBlock) (Kd.R_keptB (HO936.out) hkp (fun k_ hk_ hs_ => (hk_.1.2) hs_)) (fun k_ hk_ => ⟨hk_.1.1.1.1, hk_.1.1.1.2.1, hk_.1.1.1.2.2.1, hk_.1.1.1.2.2.2, hk_.1.2, fun e_ => Or.elim (ho0.1 k_ e_.symm) (fun hs_ => hk_.2.1 hs_) (fun hn_ => Nat.not_le.2 hk_.2.2 hn_)⟩)); have n3_ := Aside0.mk (Kd.R_mono (ok' := fun k_ => some k_ ≠ (.slice Ao25 t925.length co25 : Value).ownBlock ∧ some k_ ≠ (.slice Ao28 t931.length co28 : Value).ownBlock ∧ some k_ ≠ (.slice Ao31 t934.length co31 : Value).ownBlock ∧ some k_ ≠ (.slice Ao38 t940.length co38 : Value).ownBlock ∧ some k_ ≠ (.slice Ao44 t951.length co44 : Value).ownBlock ∧ some k_ ≠ (v955 : Value).ownBlock) (Kd.R_keptB (HO939.out) hkp (fun k_ hk_ hs_ => (hk_.1.2) hs_)) (fun k_ hk_ => ⟨hk_.1.1.1.2.1, hk_.1.1.1.2.2.1, hk_.1.1.1.2.2.2, hk_.1.1.1.1, hk_.1.2, fun e_ => Or.elim (ho0.1 k_ e_.symm) (fun hs_ => hk_.2.1 hs_) (fun hn_ => Nat.not_le.2 hk_.2.2 hn_)⟩)); have n4_ := Aside0.mk (Kd.R_mono (ok' := fun k_ => some k_ ≠ (.slice Ao25 t925.length co25 : Value).ownBlock ∧ some k_ ≠ (.slice Ao28 t931.length co28 : Value).ownBlock ∧ some k_ ≠ (.slice Ao31 t934.length co31 : Value).ownBlock ∧ some k_ ≠ (.slice Ao35 t937.length co35 : Value).ownBlock ∧ some k_ ≠ (.slice Ao44 t951.length co44 : Value).ownBlock ∧ some k_ ≠ (v955 : Value).ownBlock) (Kd.R_keptB (HO942.out) hkp (fun k_ hk_ hs_ => (hk_.1.2) hs_)) (fun k_ hk_ => ⟨hk_.1.1.1.2.1, hk_.1.1.1.2.2.1, hk_.1.1.1.2.2.2, hk_.1.1.1.1, hk_.1.2, fun e_ => Or.elim (ho0.1 k_ e_.symm) (fun hs_ => hk_.2.1 hs_) (fun hn_ => Nat.not_le.2 hk_.2.2 hn_)⟩)); have n5_ := Aside0.mk (blk_kept BK944.out hkp (fun hs_ => (fun e_ => (Kd.R_ne HO950.out BK944.out (by decide)) e_) hs_)); have n6_ := Aside0.mk (blk_kept BK945.out hkp (fun hs_ => (fun e_ => (Kd.R_ne HO950.out BK945.out (by decide)) e_) hs_)); have n7_ := Aside0.mk (Kd.R_mono (ok' := fun k_ => some k_ ≠ (.slice Ao25 t925.length co25 : Value).ownBlock ∧ some k_ ≠ (.slice Ao28 t931.length co28 : Value).ownBlock ∧ some k_ ≠ (.slice Ao31 t934.length co31 : Value).ownBlock ∧ some k_ ≠ (.slice Ao35 t937.length co35 : Value).ownBlock ∧ some k_ ≠ (.slice Ao38 t940.length co38 : Value).ownBlock ∧ some k_ ≠ (v955 : Value).ownBlock) (Kd.R_keptB (HO953.out) hkp (fun k_ hk_ hs_ => (hk_.2) hs_)) (fun k_ hk_ => ⟨hk_.1.1.1.1.1.1.2, hk_.1.1.1.1.1.2, hk_.1.1.1.1.2, hk_.1.1.1.2, hk_.1.1.2, fun e_ => Or.elim (ho0.1 k_ e_.symm) (fun hs_ => hk_.2.1 hs_) (fun hn_ => Nat.not_le.2 hk_.2.2 hn_)⟩)); have n8_ := Aside0.mk (Kd.R_mono (ok' := fun k_ => some k_ ≠ (.slice Ao25 t925.length co25 : Value).ownBlock ∧ some k_ ≠ (.slice Ao28 t931.length co28 : Value).ownBlock ∧ some k_ ≠ (.slice Ao31 t934.length co31 : Value).ownBlock ∧ some k_ ≠ (.slice Ao35 t937.length co35 : Value).ownBlock ∧ some k_ ≠ (.slice Ao38 t940.length co38 : Value).ownBlock ∧ some k_ ≠ (.slice Ao44 t951.length co44 : Value).ownBlock) ho0 (fun k_ hk_ => ⟨Or.elim hk_ (fun hs_ => fun e_ => (((HO927.out).1 k_ e_.symm).1.2) hs_) (fun hn_ => (Kd.fresh' (Kd.R_lt HO927.out) k_ hn_)), Or.elim hk_ (fun hs_ => fun e_ => (((HO933.out).1 k_ e_.symm).1.2) hs_) (fun hn_ => (Kd.fresh' (Kd.R_lt HO933.out) k_ hn_)), Or.elim hk_ (fun hs_ => fun e_ => (((HO936.out).1 k_ e_.symm).1.2) hs_) (fun hn_ => (Kd.fresh' (Kd.R_lt HO936.out) k_ hn_)), Or.elim hk_ (fun hs_ => fun e_ => (((HO939.out).1 k_ e_.symm).1.2) hs_) (fun hn_ => (Kd.fresh' (Kd.R_lt HO939.out) k_ hn_)), Or.elim hk_ (fun hs_ => fun e_ => (((HO942.out).1 k_ e_.symm).1.2) hs_) (fun hn_ => (Kd.fresh' (Kd.R_lt HO942.out) k_ hn_)), Or.elim hk_ (fun hs_ => fun e_ => (((HO953.out).1 k_ e_.symm).2) hs_) (fun hn_ => (Kd.fresh' (Kd.R_lt HO953.out) k_ hn_))⟩)); have n9_ := Aside0.mk (hb); clear HO927; clear HO933; clear HO936; clear HO939; clear HO942; clear BK944; clear BK945; clear HO953; clear HB; clear HO950; have HO927 := n0_; have HO933 := n1_; have HO936 := n2_; have HO939 := n3_; have HO942 := n4_; have BK944 := n5_; have BK945 := n6_; have HO953 := n7_; have HO956 := n8_; have HB := n9_; clear n0_ n1_ n2_ n3_ n4_ n5_ n6_ n7_ n8_ n9_) | ((with_reducible refine gate_dst (N := 6) rfl ?_); refine box_event ?hg (N := 6) ?hd (cs := #[.slice none 0 0]) (t := 25) ?hr ?_; (case hd => rfl); (case hg => rfl); (case hr => first | (go_simp; done) | (go_simp; rfl)); intro gb958 hg w46 hbox hb; replace HO927 := Aside0.mk (Kd.R_below HO927.out hb); replace HO933 := Aside0.mk (Kd.R_below HO933.out hb); replace HO936 := Aside0.mk (Kd.R_below HO936.out hb); replace HO939 := Aside0.mk (Kd.R_below HO939.out hb); replace HO942 := Aside0.mk (Kd.R_below HO942.out hb); replace HO953 := Aside0.mk (Kd.R_below HO953.out hb); replace HO956 := Aside0.mk (Kd.R_below HO956.out hb); have BK958 := Aside0.mk (hbox); have GW958 := Aside0.mk ((by rw [hg]; exact (below_size (by repeat (first | (with_reducible first | exact HB.out | apply below_alloc | apply pw_below_drewN | apply below_drew1 | refine below_set ?_ GE944.out | refine below_set ?_ GE945.out) | exact HB.out))) : w.heap.size ≤ gb958)); have GE958 := Aside0.mk ((by rw [hg]; exact (below_size (by repeat (first | (with_reducible first | exact HB.out | apply below_alloc | apply pw_below_drewN | apply below_drew1 | refine below_set ?_ GE944.out | refine below_set ?_ GE945.out) | exact HB.out))) : w.heap.size ≤ gb958)); replace HB := Aside0.mk (below_step (by repeat (first | (with_reducible first | exact HB.out | apply below_alloc | apply pw_below_drewN | apply below_drew1 | refine below_set ?_ GE944.out | refine below_set ?_ GE945.out) | exact HB.out)) hb); have NB944_958 := Aside0.mk ((by rw [hg]; exact Nat.ne_of_lt (blk_lt (g := gb944) (o := .cells #[.slice Ao35 t937.length co35] 25 (0, 0)) BK944.out) : gb944 ≠ gb958)); have NB958_944 := Aside0.mk ((by rw [hg]; exact Nat.ne_of_gt (blk_lt (g := gb944) (o := .cells #[.slice Ao35 t937.length co35] 25 (0, 0)) BK944.out) : gb958 ≠ gb944)); replace BK944 := Aside0.mk (blk_below (g := gb944) (o := .cells #[.slice Ao35 t937.length co35] 25 (0, 0)) BK944.out hb); have NB945_958 := Aside0.mk ((by rw [hg]; exact Nat.ne_of_lt (blk_lt (g := gb945) (o := .cells #[.slice Ao38 t940.length co38] 25 (0, 0)) BK945.out) : gb945 ≠ gb958)); have NB958_945 := Aside0.mk ((by rw [hg]; exact Nat.ne_of_gt (blk_lt (g := gb945) (o := .cells #[.slice Ao38 t940.length co38] 25 (0, 0)) BK945.out) : gb958 ≠ gb945)); replace BK945 := Aside0.mk (blk_below (g := gb945) (o := .cells #[.slice Ao38 t940.length co38] 25 (0, 0)) BK945.out hb); clear hb hbox hg; obtain ⟨Ao47, co47, eo47⟩ := Kd.R_slice HO956.out; subst eo47; have hnb48 := NB958_944.out; have hnc48 := NB944_958.out; have hnb49 := NB958_945.out; have hnc49 := NB945_958.out; have hcz50_0 : w46.cell? ⟨gb958, 0, none⟩ = some (.slice none 0 0) := (blk_cell BK958.out 0).trans rfl; have hfz50_0 := blk_frozen BK958.out 0) | ((with_reducible refine gate_callee (f := 29) rfl ?_); refine goesL_ (some 34) rfl rfl Try.func29 (by kernel_rfl) rfl #[.agg #[.slice Ao47 t954.length co47]] rfl (by (try simp only [List.map_toArray, List.map_cons, List.map_nil]); first | done | rfl | (simp only [List.length_drop, List.length_take]; rfl)) ?_; (with_reducible refine (nat_Nat_Small.calls k _ _ t954 t959 true _ ?side1 ?side2 A10.out).mono ?_); (case side1 => exact (Kd.R_reads' (e := 23) (base := w.heap.size) (n := t954.length) (c := co47) (by exact (Kd.R_mono (Kd.R_far (p := ⟨gb958, 0, none⟩) (Kd.R_types HO956.out BK958.out (by decide)) (fun _ hk => hk.2) (.slice Ao47 t954.length co47)) (fun _ h_ => h_.1)))).2.2); (case side2 => exact (Kd.R_reads' HO956.out).2.1); rintro e w51 ⟨rfl, hb⟩; refine ⟨_, rfl, ?_⟩; replace HO927 := Aside0.mk (Kd.R_below (by exact (Kd.R_mono (Kd.R_far (p := ⟨gb958, 0, none⟩) (Kd.R_types HO927.out BK958.out (by decide)) (fun _ hk => hk.2) (.slice Ao47 t954.length co47)) (fun _ h_ => h_.1))) hb); replace HO933 := Aside0.mk (Kd.R_below (by exact (Kd.R_mono (Kd.R_far (p := ⟨gb958, 0, none⟩) (Kd.R_types HO933.out BK958.out (by decide)) (fun _ hk => hk.2) (.slice Ao47 t954.length co47)) (fun _ h_ => h_.1))) hb); replace HO936 := Aside0.mk (Kd.R_below (by exact (Kd.R_mono (Kd.R_far (p := ⟨gb958, 0, none⟩) (Kd.R_types HO936.out BK958.out (by decide)) (fun _ hk => hk.2) (.slice Ao47 t954.length co47)) (fun _ h_ => h_.1))) hb); replace HO939 := Aside0.mk (Kd.R_below (by exact (Kd.R_mono (Kd.R_far (p := ⟨gb958, 0, none⟩) (Kd.R_types HO939.out BK958.out (by decide)) (fun _ hk => hk.2) (.slice Ao47 t954.length co47)) (fun _ h_ => h_.1))) hb); replace HO942 := Aside0.mk (Kd.R_below (by exact (Kd.R_mono (Kd.R_far (p := ⟨gb958, 0, none⟩) (Kd.R_types HO942.out BK958.out (by decide)) (fun _ hk => hk.2) (.slice Ao47 t954.length co47)) (fun _ h_ => h_.1))) hb); replace HO953 := Aside0.mk (Kd.R_below (by exact (Kd.R_mono (Kd.R_far (p := ⟨gb958, 0, none⟩) (Kd.R_types HO953.out BK958.out (by decide)) (fun _ hk => hk.2) (.slice Ao47 t954.length co47)) (fun _ h_ => h_.1))) hb); replace HO956 := Aside0.mk (Kd.R_below (by exact (Kd.R_mono (Kd.R_far (p := ⟨gb958, 0, none⟩) (Kd.R_types HO956.out BK958.out (by decide)) (fun _ hk => hk.2) (.slice Ao47 t954.length co47)) (fun _ h_ => h_.1))) hb); replace BK944 := Aside0.mk (blk_below (g := gb944) (o := .cells #[.slice Ao35 t937.length co35] 25 (0, 0)) (by (with_reducible repeat (first | refine blk_drewN ?_ _ | refine blk_drew ?_ | refine blk_alloc ?_ _)); refine blk_far ?_ NB944_958.out _; (with_reducible repeat (first | refine blk_drewN ?_ _ | refine blk_drew ?_ | refine blk_alloc ?_ _)); exact BK944.out) hb); replace BK945 := Aside0.mk (blk_below (g := gb945) (o := .cells #[.slice Ao38 t940.length co38] 25 (0, 0)) (by (with_reducible repeat (first | refine blk_drewN ?_ _ | refine blk_drew ?_ | refine blk_alloc ?_ _)); refine blk_far ?_ NB945_958.out _; (with_reducible repeat (first | refine blk_drewN ?_ _ | refine blk_drew ?_ | refine blk_alloc ?_ _)); exact BK945.out) hb); replace BK958 := Aside0.mk (blk_below (g := gb958) (o := .cells #[.slice Ao47 t954.length co47] 25 (0, 0)) (by (with_reducible repeat (first | refine blk_drewN ?_ _ | refine blk_drew ?_ | refine blk_alloc ?_ _)); refine blk_put (cs := #[.slice none 0 0]) ?_ 0 _ rfl; (with_reducible repeat (first | refine blk_drewN ?_ _ | refine blk_drew ?_ | refine blk_alloc ?_ _)); exact BK958.out) hb); replace HB := Aside0.mk (below_step (by repeat (first | (with_reducible first | exact HB.out | apply below_alloc | apply pw_below_drewN | apply below_drew1 | refine below_set ?_ GE944.out | refine below_set ?_ GE945.out | refine below_set ?_ GE958.out) | exact HB.out)) hb)) | ((with_reducible refine gate_callee (f := 26) rfl ?_); refine goesL_ (some 38) rfl rfl Try.func26 (by kernel_rfl) rfl #[.int .u64 12] rfl (by (try simp only [List.map_toArray, List.map_cons, List.map_nil]); first | done | rfl | (simp only [List.length_drop, List.length_take]; rfl)) ?_; (with_reducible refine (nat_Of.calls k 12 t961 _ A11.out).mono ?_); rintro e w52 ⟨v962, rfl, ho0, hb⟩; refine ⟨_, rfl, ?_⟩; have HO963 := Aside0.mk (Kd.R_lower (Kd.R_new' (Kd.R_new' (Kd.R_new' (Kd.R_new' (Kd.R_new' (Kd.R_new' (Kd.R_new' ho0 (Kd.R_lt HO927.out)) (Kd.R_lt HO933.out)) (Kd.R_lt HO936.out)) (Kd.R_lt HO939.out)) (Kd.R_lt HO942.out)) (Kd.R_lt HO953.out)) (Kd.R_lt HO956.out)) (below_size (by repeat (first | (with_reducible first | exact HB.out | apply below_alloc | apply pw_below_drewN | apply below_drew1 | refine below_set ?_ GE944.out | refine below_set ?_ GE945.out | refine below_set ?_ GE958.out) | exact HB.out)))); replace HO927 := Aside0.mk (Kd.R_elder' HO927.out (Kd.R_base ho0) hb); replace HO933 := Aside0.mk (Kd.R_elder' HO933.out (Kd.R_base ho0) hb); replace HO936 := Aside0.mk (Kd.R_elder' HO936.out (Kd.R_base ho0) hb); replace HO939 := Aside0.mk (Kd.R_elder' HO939.out (Kd.R_base ho0) hb); replace HO942 := Aside0.mk (Kd.R_elder' HO942.out (Kd.R_base ho0) hb); replace HO953 := Aside0.mk (Kd.R_elder' HO953.out (Kd.R_base ho0) hb); replace HO956 := Aside0.mk (Kd.R_elder' HO956.out (Kd.R_base ho0) hb); replace BK944 := Aside0.mk (blk_below (g := gb944) (o := .cells #[.slice Ao35 t937.length co35] 25 (0, 0)) BK944.out hb); replace BK945 := Aside0.mk (blk_below (g := gb945) (o := .cells #[.slice Ao38 t940.length co38] 25 (0, 0)) BK945.out hb); replace BK958 := Aside0.mk (blk_below (g := gb958) (o := .cells #[.slice Ao47 t954.length co47] 25 (0, 0)) BK958.out hb); replace HB := Aside0.mk (below_step (by repeat (first | (with_reducible first | exact HB.out | apply below_alloc | apply pw_below_drewN | apply below_drew1 | refine below_set ?_ GE944.out | refine below_set ?_ GE945.out | refine below_set ?_ GE958.out) | exact HB.out)) hb)) | ((with_reducible refine gate_callee (f := 26) rfl ?_); refine goesL_ (some 39) rfl rfl Try.func26 (by kernel_rfl) rfl #[.int .u64 18] rfl (by (try simp only [List.map_toArray, List.map_cons, List.map_nil]); first | done | rfl | (simp only [List.length_drop, List.length_take]; rfl)) ?_; (with_reducible refine (nat_Of.calls k 18 t964 _ A12.out).mono ?_); rintro e w53 ⟨v965, rfl, ho0, hb⟩; refine ⟨_, rfl, ?_⟩; have HO966 := Aside0.mk (Kd.R_lower (Kd.R_new' (Kd.R_new' (Kd.R_new' (Kd.R_new' (Kd.R_new' (Kd.R_new' (Kd.R_new' (Kd.R_new' ho0 (Kd.R_lt HO927.out)) (Kd.R_lt HO933.out)) (Kd.R_lt HO936.out)) (Kd.R_lt HO939.out)) (Kd.R_lt HO942.out)) (Kd.R_lt HO953.out)) (Kd.R_lt HO956.out)) (Kd.R_lt HO963.out)) (below_size (by repeat (first | (with_reducible first | exact HB.out | apply below_alloc | apply pw_below_drewN | apply below_drew1 | refine below_set ?_ GE944.out | refine below_set ?_ GE945.out | refine below_set ?_ GE958.out) | exact HB.out)))); replace HO927 := Aside0.mk (Kd.R_elder' HO927.out (Kd.R_base ho0) hb); replace HO933 := Aside0.mk (Kd.R_elder' HO933.out (Kd.R_base ho0) hb); replace HO936 := Aside0.mk (Kd.R_elder' HO936.out (Kd.R_base ho0) hb); replace HO939 := Aside0.mk (Kd.R_elder' HO939.out (Kd.R_base ho0) hb); replace HO942 := Aside0.mk (Kd.R_elder' HO942.out (Kd.R_base ho0) hb); replace HO953 := Aside0.mk (Kd.R_elder' HO953.out (Kd.R_base ho0) hb); replace HO956 := Aside0.mk (Kd.R_elder' HO956.out (Kd.R_base ho0) hb); replace HO963 := Aside0.mk (Kd.R_elder' HO963.out (Kd.R_base ho0) hb); replace BK944 := Aside0.mk (blk_below (g := gb944) (o := .cells #[.slice Ao35 t937.length co35] 25 (0, 0)) BK944.out hb); replace BK945 := Aside0.mk (blk_below (g := gb945) (o := .cells #[.slice Ao38 t940.length co38] 25 (0, 0)) BK945.out hb); replace BK958 := Aside0.mk (blk_below (g := gb958) (o := .cells #[.slice Ao47 t954.length co47] 25 (0, 0)) BK958.out hb); replace HB := Aside0.mk (below_step (by repeat (first | (with_reducible first | exact HB.out | apply below_alloc | apply pw_below_drewN | apply below_drew1 | refine below_set ?_ GE944.out | refine below_set ?_ GE945.out | refine below_set ?_ GE958.out) | exact HB.out)) hb); obtain ⟨Ao54, co54, eo54⟩ := Kd.R_slice HO963.out; subst eo54; obtain ⟨Ao55, co55, eo55⟩ := Kd.R_slice HO966.out; subst eo55) | ((with_reducible refine gate_callee (f := 47) rfl ?_); refine goesL_ (some 40) rfl rfl Try.func47 (by kernel_rfl) rfl #[.agg #[.slice Ao54 t961.length co54], .agg #[.slice Ao55 t964.length co55]] rfl (by (try simp only [List.map_toArray, List.map_cons, List.map_nil]); first | done | rfl | (simp only [List.length_drop, List.length_take]; rfl)) ?_; (with_reducible refine (quot_Gcd.calls k (fun k_ => some k_ = (.slice Ao54 t961.length co54 : Value).ownBlock) (.slice Ao54 t961.length co54) t961 (fun k_ => some k_ = (.slice Ao55 t964.length co55 : Value).ownBlock) (.slice Ao55 t964.length co55) t964 t967 w _ ?side1 ?side2 ?side3 ?side4 ?side5 A13.out).mono ?_); (case side1 => repeat (first | (with_reducible first | exact HB.out | apply below_alloc | apply pw_below_drewN | apply below_drew1 | refine below_set ?_ GE944.out | refine below_set ?_ GE945.out | refine below_set ?_ GE958.out) | exact HB.out)); (case side2 => exact Kd.R_tight rfl HO963.out); (case side3 => exact fun k_ e_ => (HO963.out.1 k_ e_.symm).2); (case side4 => exact Kd.R_tight rfl HO966.out); (case side5 => exact fun k_ e_ => (HO966.out.1 k_ e_.symm).2); rintro e w56 ⟨v968, rfl, ho0, hb, hkp⟩; refine ⟨_, rfl, ?_⟩; have n0_ := Aside0.mk (Kd.R_mono (ok' := fun k_ => some k_ ≠ (.slice Ao28 t931.length co28 : Value).ownBlock ∧ some k_ ≠ (.slice Ao31 t934.length co31 : Value).ownBlock ∧ some k_ ≠ (.slice Ao35 t937.length co35 : Value).ownBlock ∧ some k_ ≠ (.slice Ao38 t940.length co38 : Value).ownBlock ∧ some k_ ≠ (.slice Ao44 t951.length co44 : Value).ownBlock ∧ some k_ ≠ (.slice Ao47 t954.length co47 : Value).ownBlock ∧ some k_ ≠ (v968 : Value).ownBlock) (Kd.R_keptB (HO927.out) hkp (fun k_ hk_ hs_ => Or.elim hs_ (fun e_ => (hk_.1.2) e_) (fun e_ => (hk_.2) e_))) (fun k_ hk_ => ⟨hk_.1.1.1.1, hk_.1.1.1.2.1, hk_.1.1.1.2.2.1, hk_.1.1.1.2.2.2.1, hk_.1.1.1.2.2.2.2.1, hk_.1.1.1.2.2.2.2.2, fun e_ => Or.elim (ho0.1 k_ e_.symm) (fun hs_ => hk_.2.1 hs_) (fun hn_ => Nat.not_le.2 hk_.2.2 hn_)⟩)); have n1_ := Aside0.mk (Kd.R_mono (ok' := fun k_ => some k_ ≠ (.slice Ao25 t925.length co25 : Value).ownBlock ∧ some k_ ≠ (.slice Ao31 t934.length co31 : Value).ownBlock ∧ some k_ ≠ (.slice Ao35 t937.length co35 : Value).ownBlock ∧ some k_ ≠ (.slice Ao38 t940.length co38 : Value).ownBlock ∧ some k_ ≠ (.slice Ao44 t951.length co44 : Value).ownBlock ∧ some k_ ≠ (.slice Ao47 t954.length co47 : Value).ownBlock ∧ some k_ ≠ (v968 : Value).ownBlock) (Kd.R_keptB (HO933.out) hkp (fun k_ hk_ hs_ => Or.elim hs_ (fun e_ => (hk_.1.2) e_) (fun e_ => (hk_.2) e_))) (fun k_ hk_ => ⟨hk_.1.1.1.1, hk_.1.1.1.2.1, hk_.1.1.1.2.2.1, hk_.1.1.1.2.2.2.1, hk_.1.1.1.2.2.2.2.1, hk_.1.1.1.2.2.2.2.2, fun e_ => Or.elim (ho0.1 k_ e_.symm) (fun hs_ => hk_.2.1 hs_) (fun hn_ => Nat.not_le.2 hk_.2.2 hn_)⟩)); have n2_ := Aside0.mk (Kd.R_mono (ok' := fun k_ => some k_ ≠ (.slice Ao25 t925.length co25 : Value).ownBlock ∧ some k_ ≠ (.slice Ao28 t931.length co28 : Value).ownBlock ∧ some k_ ≠ (.slice Ao35 t937.length co35 : Value).ownBlock ∧ some k_ ≠ (.slice Ao38 t940.length co38 : Value).ownBlock ∧ some k_ ≠ (.slice Ao44 t951.length co44 : Value).ownBlock ∧ some k_ ≠ (.slice Ao47 t954.length co47 : Value).ownBlock ∧ some k_ ≠ (v968 : Value).ownBlock) (Kd.R_keptB (HO936.out) hkp (fun k_ hk_ hs_ => Or.elim hs_ (fun e_ => (hk_.1.2) e_) (fun e_ => (hk_.2) e_))) (fun k_ hk_ => ⟨hk_.1.1.1.1, hk_.1.1.1.2.1, hk_.1.1.1.2.2.1, hk_.1.1.1.2.2.2.1, hk_.1.1.1.2.2.2.2.1, hk_.1.1.1.2.2.2.2.2, fun e_ => Or.elim (ho0.1 k_ e_.symm) (fun hs_ => hk_.2.1 hs_) (fun hn_ => Nat.not_le.2 hk_.2.2 hn_)⟩)); have n3_ := Aside0.mk (Kd.R_mono (ok' := fun k_ => some k_ ≠ (.slice Ao25 t925.length co25 : Value).ownBlock ∧ some k_ ≠ (.slice Ao28 t931.length co28 : Value).ownBlock ∧ some k_ ≠ (.slice Ao31 t934.length co31 : Value).ownBlock ∧ some k_ ≠ (.slice Ao38 t940.length co38 : Value).ownBlock ∧ some k_ ≠ (.slice Ao44 t951.length co44 : Value).ownBlock ∧ some k_ ≠ (.slice Ao47 t954.length co47 : Value).ownBlock ∧ some k_ ≠ (v968 : Value).ownBlock) (Kd.R_keptB (HO939.out) hkp (fun k_ hk_ hs_ => Or.elim hs_ (fun e_ => (hk_.1.2) e_) (fun e_ => (hk_.2) e_))) (fun k_ hk_ => ⟨hk_.1.1.1.1, hk_.1.1.1.2.1, hk_.1.1.1.2.2.1, hk_.1.1.1.2.2.2.1, hk_.1.1.1.2.2.2.2.1, hk_.1.1.1.2.2.2.2.2, fun e_ => Or.elim (ho0.1 k_ e_.symm) (fun hs_ => hk_.2.1 hs_) (fun hn_ => Nat.not_le.2 hk_.2.2 hn_)⟩)); have n4_ := Aside0.mk (Kd.R_mono (ok' := fun k_ => some k_ ≠ (.slice Ao25 t925.length co25 : Value).ownBlock ∧ some k_ ≠ (.slice Ao28 t931.length co28 : Value).ownBlock ∧ some k_ ≠ (.slice Ao31 t934.length co31 : Value).ownBlock ∧ some k_ ≠ (.slice Ao35 t937.length co35 : Value).ownBlock ∧ some k_ ≠ (.slice Ao44 t951.length co44 : Value).ownBlock ∧ some k_ ≠ (.slice Ao47 t954.length co47 : Value).ownBlock ∧ some k_ ≠ (v968 : Value).ownBlock) (Kd.R_keptB (HO942.out) hkp (fun k_ hk_ hs_ => Or.elim hs_ (fun e_ => (hk_.1.2) e_) (fun e_ => (hk_.2) e_))) (fun k_ hk_ => ⟨hk_.1.1.1.1, hk_.1.1.1.2.1, hk_.1.1.1.2.2.1, hk_.1.1.1.2.2.2.1, hk_.1.1.1.2.2.2.2.1, hk_.1.1.1.2.2.2.2.2, fun e_ => Or.elim (ho0.1 k_ e_.symm) (fun hs_ => hk_.2.1 hs_) (fun hn_ => Nat.not_le.2 hk_.2.2 hn_)⟩)); have n5_ := Aside0.mk (blk_kept BK944.out hkp (fun hs_ => Or.elim hs_ (fun e_ => (fun e_ => (Kd.R_ne HO963.out BK944.out (by decide)) e_) e_) (fun e_ => (fun e_ => (Kd.R_ne HO966.out BK944.out (by decide)) e_) e_))); have n6_ := Aside0.mk (blk_kept BK945.out hkp (fun hs_ => Or.elim hs_ (fun e_ => (fun e_ => (Kd.R_ne HO963.out BK945.out (by decide)) e_) e_) (fun e_ => (fun e_ => (Kd.R_ne HO966.out BK945.out (by decide)) e_) e_))); have n7_ := Aside0.mk (Kd.R_mono (ok' := fun k_ => some k_ ≠ (.slice Ao25 t925.length co25 : Value).ownBlock ∧ some k_ ≠ (.slice Ao28 t931.length co28 : Value).ownBlock ∧ some k_ ≠ (.slice Ao31 t934.length co31 : Value).ownBlock ∧ some k_ ≠ (.slice Ao35 t937.length co35 : Value).ownBlock ∧ some k_ ≠ (.slice Ao38 t940.length co38 : Value).ownBlock ∧ some k_ ≠ (.slice Ao47 t954.length co47 : Value).ownBlock ∧ some k_ ≠ (v968 : Value).ownBlock) (Kd.R_keptB (HO953.out) hkp (fun k_ hk_ hs_ => Or.elim hs_ (fun e_ => (hk_.1.2) e_) (fun e_ => (hk_.2) e_))) (fun k_ hk_ => ⟨hk_.1.1.1.1, hk_.1.1.1.2.1, hk_.1.1.1.2.2.1, hk_.1.1.1.2.2.2.1, hk_.1.1.1.2.2.2.2.1, hk_.1.1.1.2.2.2.2.2, fun e_ => Or.elim (ho0.1 k_ e_.symm) (fun hs_ => hk_.2.1 hs_) (fun hn_ => Nat.not_le.2 hk_.2.2 hn_)⟩)); have n8_ := Aside0.mk (Kd.R_mono (ok' := fun k_ => some k_ ≠ (.slice Ao25 t925.length co25 : Value).ownBlock ∧ some k_ ≠ (.slice Ao28 t931.length co28 : Value).ownBlock ∧ some k_ ≠ (.slice Ao31 t934.length co31 : Value).ownBlock ∧ some k_ ≠ (.slice Ao35 t937.length co35 : Value).ownBlock ∧ some k_ ≠ (.slice Ao38 t940.length co38 : Value).ownBlock ∧ some k_ ≠ (.slice Ao44 t951.length co44 : Value).ownBlock ∧ some k_ ≠ (v968 : Value).ownBlock) (Kd.R_keptB (HO956.out) hkp (fun k_ hk_ hs_ => Or.elim hs_ (fun e_ => (hk_.1.2) e_) (fun e_ => (hk_.2) e_))) (fun k_ hk_ => ⟨hk_.1.1.1.1, hk_.1.1.1.2.1, hk_.1.1.1.2.2.1, hk_.1.1.1.2.2.2.1, hk_.1.1.1.2.2.2.2.1, hk_.1.1.1.2.2.2.2.2, fun e_ => Or.elim (ho0.1 k_ e_.symm) (fun hs_ => hk_.2.1 hs_) (fun hn_ => Nat.not_le.2 hk_.2.2 hn_)⟩)); have n9_ := Aside0.mk (blk_kept BK958.out hkp (fun hs_ => Or.elim hs_ (fun e_ => (fun e_ => (Kd.R_ne HO963.out BK958.out (by decide)) e_) e_) (fun e_ => (fun e_ => (Kd.R_ne HO966.out BK958.out (by decide)) e_) e_))); have n10_ := Aside0.mk (Kd.R_mono (ok' := fun k_ => some k_ ≠ (.slice Ao25 t925.length co25 : Value).ownBlock ∧ some k_ ≠ (.slice Ao28 t931.length co28 : Value).ownBlock ∧ some k_ ≠ (.slice Ao31 t934.length co31 : Value).ownBlock ∧ some k_ ≠ (.slice Ao35 t937.length co35 : Value).ownBlock ∧ some k_ ≠ (.slice Ao38 t940.length co38 : Value).ownBlock ∧ some k_ ≠ (.slice Ao44 t951.length co44 : Value).ownBlock ∧ some k_ ≠ (.slice Ao47 t954.length co47 : Value).ownBlock) ho0 (fun k_ hk_ => ⟨Or.elim hk_ (fun hs_ => Or.elim hs_ (fun hs_ => fun e_ => (((HO927.out).1 k_ e_.symm).1.2) hs_) (fun hs_ => fun e_ => (((HO927.out).1 k_ e_.symm).2) hs_)) (fun hn_ => (Kd.fresh' (Kd.R_lt HO927.out) k_ hn_)), Or.elim hk_ (fun hs_ => Or.elim hs_ (fun hs_ => fun e_ => (((HO933.out).1 k_ e_.symm).1.2) hs_) (fun hs_ => fun e_ => (((HO933.out).1 k_ e_.symm).2) hs_)) (fun hn_ => (Kd.fresh' (Kd.R_lt HO933.out) k_ hn_)), Or.elim hk_ (fun hs_ => Or.elim hs_ (fun hs_ => fun e_ => (((HO936.out).1 k_ e_.symm).1.2) hs_) (fun hs_ => fun e_ => (((HO936.out).1 k_ e_.symm).2) hs_)) (fun hn_ => (Kd.fresh' (Kd.R_lt HO936.out) k_ hn_)), Or.elim hk_ (fun hs_ => Or.elim hs_ (fun hs_ => fun e_ => (((HO939.out).1 k_ e_.symm).1.2) hs_) (fun hs_ => fun e_ => (((HO939.out).1 k_ e_.symm).2) hs_)) (fun hn_ => (Kd.fresh' (Kd.R_lt HO939.out) k_ hn_)), Or.elim hk_ (fun hs_ => Or.elim hs_ (fun hs_ => fun e_ => (((HO942.out).1 k_ e_.symm).1.2) hs_) (fun hs_ => fun e_ => (((HO942.out).1 k_ e_.symm).2) hs_)) (fun hn_ => (Kd.fresh' (Kd.R_lt HO942.out) k_ hn_)), Or.elim hk_ (fun hs_ => Or.elim hs_ (fun hs_ => fun e_ => (((HO953.out).1 k_ e_.symm).1.2) hs_) (fun hs_ => fun e_ => (((HO953.out).1 k_ e_.symm).2) hs_)) (fun hn_ => (Kd.fresh' (Kd.R_lt HO953.out) k_ hn_)), Or.elim hk_ (fun hs_ => Or.elim hs_ (fun hs_ => fun e_ => (((HO956.out).1 k_ e_.symm).1.2) hs_) (fun hs_ => fun e_ => (((HO956.out).1 k_ e_.symm).2) hs_)) (fun hn_ => (Kd.fresh' (Kd.R_lt HO956.out) k_ hn_))⟩)); have n11_ := Aside0.mk (hb); clear HO927; clear HO933; clear HO936; clear HO939; clear HO942; clear BK944; clear BK945; clear HO953; clear HO956; clear BK958; clear HB; clear HO963; clear HO966; have HO927 := n0_; have HO933 := n1_; have HO936 := n2_; have HO939 := n3_; have HO942 := n4_; have BK944 := n5_; have BK945 := n6_; have HO953 := n7_; have HO956 := n8_; have BK958 := n9_; have HO969 := n10_; have HB := n11_; clear n0_ n1_ n2_ n3_ n4_ n5_ n6_ n7_ n8_ n9_ n10_ n11_; obtain ⟨Ao57, co57, eo57⟩ := Kd.R_slice HO969.out; subst eo57) | ((with_reducible refine gate_callee (f := 29) rfl ?_); refine goesL_ (some 41) rfl rfl Try.func29 (by kernel_rfl) rfl #[.agg #[.slice Ao57 t967.length co57]] rfl (by (try simp only [List.map_toArray, List.map_cons, List.map_nil]); first | done | rfl | (simp only [List.length_drop, List.length_take]; rfl)) ?_; (with_reducible refine (nat_Nat_Small.calls k _ _ t967 t970 true _ ?side1 ?side2 A14.out).mono ?_); (case side1 => repeat (first | exact (Kd.R_reads' HO969.out).2.2 | (with_reducible refine Kd.C_alloc ?_ _) | (with_reducible refine Kd.C_drewN ?_ _) | (with_reducible refine Kd.C_drew ?_))); (case side2 => exact (Kd.R_reads' HO969.out).2.1); rintro e w58 ⟨rfl, hb⟩; refine ⟨_, rfl, ?_⟩; replace HO927 := Aside0.mk (Kd.R_below HO927.out hb); replace HO933 := Aside0.mk (Kd.R_below HO933.out hb); replace HO936 := Aside0.mk (Kd.R_below HO936.out hb); replace HO939 := Aside0.mk (Kd.R_below HO939.out hb); replace HO942 := Aside0.mk (Kd.R_below HO942.out hb); replace HO953 := Aside0.mk (Kd.R_below HO953.out hb); replace HO956 := Aside0.mk (Kd.R_below HO956.out hb); replace HO969 := Aside0.mk (Kd.R_below HO969.out hb); replace BK944 := Aside0.mk (blk_below (g := gb944) (o := .cells #[.slice Ao35 t937.length co35] 25 (0, 0)) BK944.out hb); replace BK945 := Aside0.mk (blk_below (g := gb945) (o := .cells #[.slice Ao38 t940.length co38] 25 (0, 0)) BK945.out hb); replace BK958 := Aside0.mk (blk_below (g := gb958) (o := .cells #[.slice Ao47 t954.length co47] 25 (0, 0)) BK958.out hb); replace HB := Aside0.mk (below_step (by repeat (first | (with_reducible first | exact HB.out | apply below_alloc | apply pw_below_drewN | apply below_drew1 | refine below_set ?_ GE944.out | refine below_set ?_ GE945.out | refine below_set ?_ GE958.out) | exact HB.out)) hb); have hcz59_0 : w58.cell? ⟨gb945, 0, none⟩ = some (.slice Ao38 t940.length co38) := (blk_cell BK945.out 0).trans rfl; have hfz59_0 := blk_frozen BK945.out 0) | (go_at_call 33; (with_reducible refine (nat_Nat_Bits.calls _ _ t940 t972 _ ?side1 ?side2 A18.out).mono ?_); (case side1 => repeat (first | exact (Kd.R_reads' HO942.out).2.2 | (with_reducible refine Kd.C_alloc ?_ _) | (with_reducible refine Kd.C_drewN ?_ _) | (with_reducible refine Kd.C_drew ?_))); (case side2 => exact (Kd.R_reads' HO942.out).2.1); rintro e w60 ⟨rfl, hb⟩; replace HO927 := Aside0.mk (Kd.R_below HO927.out hb); replace HO933 := Aside0.mk (Kd.R_below HO933.out hb); replace HO936 := Aside0.mk (Kd.R_below HO936.out hb); replace HO939 := Aside0.mk (Kd.R_below HO939.out hb); replace HO942 := Aside0.mk (Kd.R_below HO942.out hb); replace HO953 := Aside0.mk (Kd.R_below HO953.out hb); replace HO956 := Aside0.mk (Kd.R_below HO956.out hb); replace HO969 := Aside0.mk (Kd.R_below HO969.out hb); replace BK944 := Aside0.mk (blk_below (g := gb944) (o := .cells #[.slice Ao35 t937.length co35] 25 (0, 0)) BK944.out hb); replace BK945 := Aside0.mk (blk_below (g := gb945) (o := .cells #[.slice Ao38 t940.length co38] 25 (0, 0)) BK945.out hb); replace BK958 := Aside0.mk (blk_below (g := gb958) (o := .cells #[.slice Ao47 t954.length co47] 25 (0, 0)) BK958.out hb); replace HB := Aside0.mk (below_step (by repeat (first | (with_reducible first | exact HB.out | apply below_alloc | apply pw_below_drewN | apply below_drew1 | refine below_set ?_ GE944.out | refine below_set ?_ GE945.out | refine below_set ?_ GE958.out) | exact HB.out)) hb)))
  go_ret
  exact ⟨rfl, by repeat (first | (with_reducible first | exact HB.out | apply below_alloc | apply pw_below_drewN | apply below_drew1 | refine below_set ?_ GE944.out | refine below_set ?_ GE945.out | refine below_set ?_ GE958.out) | exact HB.out)⟩
end Go.Proofs.Ytcepdndhkidehaa.PA
end
section
namespace Go.Proofs.Ytcepdndhkidehaa.PA
open Go.RowKit Go.Proofs.YtcepdndhkidehaaW.PrintWords Go.Proofs.YtcepdndhkidehaaW.PrintLast Go.Proofs.YtcepdndhkidehaaW.PrintMore
attribute [local go_sem] max2_int min2_int max_two min_two max_three min_three max_four min_four   -- for this text's walks alone
set_option linter.unusedVariables false
set_option linter.unusedSimpArgs false

/-! ### numeraryref02_Sub: function 40 -/
def numeraryref02_Sub.l0 : Nat → List Int → List Int → List Int → Int → Int → Option (List Int)
  | 0, _, _, _, _, _ => none
  | k + 1, x0, x1, x5, x6, x7 => if x7 < (x0.length : Int) then ((numeraryref02_at.f x1 x7).bind fun t482 => (if 0 ≤ x7 then (if (wrap64 ((wrap64 ((rd x0 x7) - t482)) - x6)) < 0 then (if x5.length < 17592186044416 then (numeraryref02_Sub.l0 k x0 x1 (x5 ++ [wrap64 ((wrap64 ((wrap64 ((rd x0 x7) - t482)) - x6)) + 10)]) 1 (wrap64 (x7 + 1))) else (none)) else (if x5.length < 17592186044416 then (numeraryref02_Sub.l0 k x0 x1 (x5 ++ [wrap64 ((wrap64 ((rd x0 x7) - t482)) - x6)]) 0 (wrap64 (x7 + 1))) else (none))) else (none))) else ((numeraryref02_trim.f k x5).bind fun t490 => (some t490))
def numeraryref02_Sub.f (k : Nat) (l0 : List Int) (l1 : List Int) : Option (List Int) := numeraryref02_Sub.l0 k l0 l1 ([] : List Int) 0 0
theorem numeraryref02_Sub.mono_l : ∀ k, (∀ y0 y1 y2 y3 y4, LeO (numeraryref02_Sub.l0 k y0 y1 y2 y3 y4) (numeraryref02_Sub.l0 (k + 1) y0 y1 y2 y3 y4))
  | 0 => fun _ _ _ _ _ r h => by simp [numeraryref02_Sub.l0] at h
  | k + 1 => by
    have ih0 := numeraryref02_Sub.mono_l k
    intro y0 y1 y2 y3 y4
    unfold numeraryref02_Sub.l0
    repeat' first
    | (with_reducible exact ih0 _ _ _ _ _)
    | (with_reducible exact numeraryref02_trim.mono _ _)
    | (with_reducible exact LeO.refl _)
    | (with_reducible exact LeO.none _)
    | (with_reducible refine LeO.ite ?_ ?_)
    | (with_reducible refine LeO.bind ?_ (fun _ => ?_))
    | exact ih0 _ _ _ _ _
    | exact numeraryref02_trim.mono _ _
    | exact LeO.none _
    | refine LeO.ite ?_ ?_
    | refine LeO.bind ?_ (fun _ => ?_)
theorem numeraryref02_Sub.mono : ∀ a0 a1 k, LeO (numeraryref02_Sub.f k a0 a1) (numeraryref02_Sub.f (k + 1) a0 a1) := by
  intro a0 a1 k
  have ih0 := numeraryref02_Sub.mono_l k
  unfold numeraryref02_Sub.f
  repeat' first
      | (with_reducible exact ih0 _ _ _ _ _)
      | (with_reducible exact numeraryref02_trim.mono _ _)
      | (with_reducible exact LeO.refl _)
      | (with_reducible exact LeO.none _)
      | (with_reducible refine LeO.ite ?_ ?_)
      | (with_reducible refine LeO.bind ?_ (fun _ => ?_))
set_option maxHeartbeats 8000000 in
set_option maxRecDepth 100000 in
theorem numeraryref02_Sub.calls (k : Nat) (A0 : Option Addr) (c0 : Nat) (l0 : List Int) (A1 : Option Addr) (c1 : Nat) (l1 : List Int) (r : List Int) (w : World) (hr0 : Kd.C (Kd.int .i64) w A0 l0.length l0) (hc0 : l0.length ≤ c0) (hr1 : Kd.C (Kd.int .i64) w A1 l1.length l1) (hc1 : l1.length ≤ c1) (h : numeraryref02_Sub.f k l0 l1 = some r) :
    Calls Try.prog 40 #[.slice A0 l0.length c0, .slice A1 l1.length c1] w fun e w' => ∃ v0_ : Value, e = .returned (v0_) ∧ Kd.R (Kd.int .i64) 3 w' w.heap.size (fun _ => True) v0_ r ∧ Below w.heap.size w w' := by
  have HR0 := Aside0.mk hr0
  have HC0 := Aside0.mk hc0
  clear hr0 hc0
  have HR1 := Aside0.mk hr1
  have HC1 := Aside0.mk hc1
  clear hr1 hc1
  have HB := Aside0.mk (Below.refl w.heap.size w)
  have H : (numeraryref02_Sub.l0 k l0 l1 ([] : List Int) 0 0) = some r := h
  clear h
  have H' := Aside0.mk H
  clear H
  go_enter Try.func40, Try.ntmps40
  go_wp2
  (try simp only [Act.put, List.setIfInBounds_toArray, List.set_cons_zero, List.set_cons_succ])
  go_loopg [5, 6, 7] k (fun kq v5 v6 v7 w' => ∃ (x5_1 : List Int) (x6_1 : Int) (x7_1 : Int), v6 = .int .i64 x6_1 ∧ v7 = .int .i64 x7_1 ∧ Aside0 (numeraryref02_Sub.l0 kq l0 l1 x5_1 x6_1 x7_1 = some r) ∧ Aside0 (kq ≤ k) ∧ Aside0 (Kd.R (Kd.int .i64) 3 w' w.heap.size (fun _ => True) v5 x5_1) ∧ Aside0 (Below w.heap.size w w'))
  case atStart => exact ⟨(([] : List Int)), (0), (0), rfl, rfl, H', ⟨Nat.le_refl _⟩, ⟨by first | exact Kd.R_nil _ _ _ _ _ | exact Kd.N_nil _ _ _ _ _ | exact Kd.V_nil _ _ _ _ _ | exact Kd.Q_nil _ _ _ _ _ | exact Kd.S_nil _ _ _ _ _⟩, ⟨by repeat (first | (with_reducible first | exact HB.out | apply below_alloc | apply pw_below_drewN | apply below_drew1) | exact HB.out)⟩⟩
  case round =>
    clear H'
    try clear c1
    try clear p2
    obtain ⟨x5_1, x6_1, x7_1, rfl, rfl, HA, HK1, HO_5, HB⟩ := hrel
    cases gk with
    | zero => exact absurd HA.out (by simp [numeraryref02_Sub.l0])
    | succ k1 =>
      have H := HA.out
      clear HA
      simp only [numeraryref02_Sub.l0] at H
      by_cases c3 : x7_1 < (l0.length : Int)
      rotate_left
      · rw [if_neg c3] at H
        have c3b0 : decide (x7_1 < (l0.length : Int)) = false := decide_eq_false c3
        clear c3
        replace H := Option.bind_eq_some_iff.mp H
        obtain ⟨t490, A110, H⟩ := H
        have A11 := Aside0.mk A110
        clear A110
        obtain rfl := Option.some.inj H
        obtain ⟨Ao12, co12, eo12⟩ := Kd.R_slice HO_5.out
        subst eo12
        go_wp2_with (first | ((with_reducible refine gate_callee (f := 50) rfl ?_); refine goesL_ (some 36) rfl rfl Try.func50 (by kernel_rfl) rfl #[.slice Ao12 x5_1.length co12] rfl (by (try simp only [List.map_toArray, List.map_cons, List.map_nil]); first | done | rfl | (simp only [List.length_drop, List.length_take]; rfl)) ?_; (with_reducible refine (numeraryref02_trim.calls k1 (fun k_ => some k_ = (.slice Ao12 x5_1.length co12 : Value).ownBlock) (.slice Ao12 x5_1.length co12) x5_1 t490 w _ ?side1 ?side2 A11.out).mono ?_); (case side1 => repeat (first | (with_reducible first | exact HB.out | apply below_alloc | apply pw_below_drewN | apply below_drew1) | exact HB.out)); (case side2 => exact Kd.R_tight rfl HO_5.out); rintro e w13 ⟨v491, rfl, ho0, hb, hkp⟩; refine ⟨_, rfl, ?_⟩; have n0_ := Aside0.mk (Kd.R_mono (ok' := fun k_ => True) ho0 (fun k_ hk_ => trivial)); have n1_ := Aside0.mk (hb); clear HB; clear HO_5; have HO492 := n0_; have HB := n1_; clear n0_ n1_))
        go_ret
        exact ⟨_, rfl, by (with_reducible repeat (first | apply Kd.R_alloc | apply Kd.R_drewN | apply Kd.R_drew)); exact HO492.out, by repeat (first | (with_reducible first | exact HB.out | apply below_alloc | apply pw_below_drewN | apply below_drew1) | exact HB.out)⟩

      rw [if_pos c3] at H
      have c3b0 : decide (x7_1 < (l0.length : Int)) = true := decide_eq_true c3
      clear c3
      replace H := Option.bind_eq_some_iff.mp H
      obtain ⟨t482, A40, H⟩ := H
      have A4 := Aside0.mk A40
      clear A40
      by_cases c5 : 0 ≤ x7_1
      rotate_left
      · rw [if_neg c5] at H
        exact absurd H (by simp)
      rw [if_pos c5] at H
      have c5b0 : decide (0 ≤ x7_1) = true := decide_eq_true c5
      clear c5
      by_cases c6 : (wrap64 ((wrap64 ((rd l0 x7_1) - t482)) - x6_1)) < 0
      rotate_left
      · rw [if_neg c6] at H
        have c6b0 : decide ((wrap64 ((wrap64 ((rd l0 x7_1) - t482)) - x6_1)) < 0) = false := decide_eq_false c6
        clear c6
        by_cases c9 : x5_1.length < 17592186044416
        rotate_left
        · rw [if_neg c9] at H
          exact absurd H (by simp)
        rw [if_pos c9] at H
        have LMc9 := Aside0.mk c9
        clear c9
        obtain ⟨y487, hy487⟩ : ∃ y_ : List Int, y_ = (x5_1 ++ [wrap64 ((wrap64 ((rd l0 x7_1) - t482)) - x6_1)]) := ⟨_, rfl⟩
        replace H : (numeraryref02_Sub.l0 k1 l0 l1 y487 0 (wrap64 (x7_1 + 1))) = some r := by first | (rw [hy487]; with_reducible exact H) | (have H2_ := (Option.bind_some _ _).symm.trans H; rw [hy487]; with_reducible exact H2_) | (have H2_ := (Option.bind_some _ _).symm.trans H; with_reducible exact H2_) | with_reducible exact H | (rw [hy487]; exact H) | exact H
        have Ny487 := Aside0.mk hy487
        clear hy487
        have H' := Aside0.mk H
        clear H
        go_wp2_with (first | ((with_reducible refine gate_callee (f := 49) rfl ?_); refine goesL_ (some 18) rfl rfl Try.func49 (by kernel_rfl) rfl #[.slice A1 l1.length c1, .int .i64 x7_1] rfl (by (try simp only [List.map_toArray, List.map_cons, List.map_nil]); first | done | rfl | (simp only [List.length_drop, List.length_take]; rfl)) ?_; (with_reducible refine (numeraryref02_at.calls _ _ l1 x7_1 t482 _ ?side1 ?side2 A4.out).mono ?_); (case side1 => repeat (first | exact (Kd.C_below HR1.out HB.out) | (with_reducible refine Kd.C_alloc ?_ _) | (with_reducible refine Kd.C_drewN ?_ _) | (with_reducible refine Kd.C_drew ?_))); (case side2 => exact HC1.out); rintro e w' ⟨rfl, ⟨nd, rfl⟩⟩; refine ⟨_, rfl, ?_⟩; have p483 : 0 ≤ (x7_1 : Int) := of_decide_eq_true (by assumption); have q483 : x7_1 < (l0.length : Int) := of_decide_eq_true (by assumption); obtain ⟨ad483, e483, hx483_0⟩ := Kd.at_int HR0.out x7_1 p483 q483; cases e483; replace hx483_0 := (HB.out.cell (World.block_lt_of_cell? w _ hx483_0)).trans hx483_0; replace p483 := eq_true p483; replace q483 := eq_true q483) | ((with_reducible refine gate_builtin (b := .append) (xs := #[.tmp 31, .tmp 33]) rfl ?_); at_builtin; refine Kd.R_append (Kd.int .i64) (w0 := w) w.heap.size rfl (.tmp 31) (.tmp 33) 28 3 (.int .i64 0) 8 rfl Try.underlying28 info3 rfl (by decide) (by omega) u5 x5_1 (wrap64 ((wrap64 ((rd l0 x7_1) - t482)) - x6_1)) [.int .i64 (wrap64 ((wrap64 ((rd l0 x7_1) - t482)) - x6_1))] (fun _ => True) (fun _ => False) rfl rfl ?aP (fun _ hk => hk.elim) ?aF ?aO ?aB ?aS ?aL ?_; (case aP => exact rfl); (case aB => exact (by repeat (first | (with_reducible first | exact HB.out | apply below_alloc | apply pw_below_drewN | apply below_drew1) | exact HB.out))); (case aF => exact (fun _ _ => trivial)); (case aO => exact (by (with_reducible repeat (first | apply Kd.R_alloc | apply Kd.R_drewN | apply Kd.R_drew)); exact HO_5.out)); (case aS => exact (below_size (by repeat (first | (with_reducible first | exact HB.out | apply below_alloc | apply pw_below_drewN | apply below_drew1) | exact HB.out)))); (case aL => have := LMc9.out; omega); intro v488 w10 ho hb hg hat; rw [← Ny487.out] at ho; have n0_ := Aside0.mk (hb); have n1_ := Aside0.mk (ho); clear HB; clear HO_5; have HB := n0_; have HO489 := n1_; clear n0_ n1_; clear ho hb hg hat))
        go_roundg k1
        case measure => have := HK1.out; omega
        case rel => exact ⟨(y487), (0), (wrap64 (x7_1 + 1)), rfl, rfl, H', ⟨by have := HK1.out; omega⟩, ⟨by (with_reducible repeat (first | apply Kd.R_alloc | apply Kd.R_drewN | apply Kd.R_drew)); exact HO489.out⟩, ⟨by repeat (first | (with_reducible first | exact HB.out | apply below_alloc | apply pw_below_drewN | apply below_drew1) | exact HB.out)⟩⟩
      rw [if_pos c6] at H
      have c6b0 : decide ((wrap64 ((wrap64 ((rd l0 x7_1) - t482)) - x6_1)) < 0) = true := decide_eq_true c6
      clear c6
      by_cases c7 : x5_1.length < 17592186044416
      rotate_left
      · rw [if_neg c7] at H
        exact absurd H (by simp)
      rw [if_pos c7] at H
      have LMc7 := Aside0.mk c7
      clear c7
      obtain ⟨y484, hy484⟩ : ∃ y_ : List Int, y_ = (x5_1 ++ [wrap64 ((wrap64 ((wrap64 ((rd l0 x7_1) - t482)) - x6_1)) + 10)]) := ⟨_, rfl⟩
      replace H : (numeraryref02_Sub.l0 k1 l0 l1 y484 1 (wrap64 (x7_1 + 1))) = some r := by first | (rw [hy484]; with_reducible exact H) | (have H2_ := (Option.bind_some _ _).symm.trans H; rw [hy484]; with_reducible exact H2_) | (have H2_ := (Option.bind_some _ _).symm.trans H; with_reducible exact H2_) | with_reducible exact H | (rw [hy484]; exact H) | exact H
      have Ny484 := Aside0.mk hy484
      clear hy484
      have H' := Aside0.mk H
      clear H
      go_wp2_with (first | ((with_reducible refine gate_callee (f := 49) rfl ?_); refine goesL_ (some 18) rfl rfl Try.func49 (by kernel_rfl) rfl #[.slice A1 l1.length c1, .int .i64 x7_1] rfl (by (try simp only [List.map_toArray, List.map_cons, List.map_nil]); first | done | rfl | (simp only [List.length_drop, List.length_take]; rfl)) ?_; (with_reducible refine (numeraryref02_at.calls _ _ l1 x7_1 t482 _ ?side1 ?side2 A4.out).mono ?_); (case side1 => repeat (first | exact (Kd.C_below HR1.out HB.out) | (with_reducible refine Kd.C_alloc ?_ _) | (with_reducible refine Kd.C_drewN ?_ _) | (with_reducible refine Kd.C_drew ?_))); (case side2 => exact HC1.out); rintro e w' ⟨rfl, ⟨nd, rfl⟩⟩; refine ⟨_, rfl, ?_⟩; have p483 : 0 ≤ (x7_1 : Int) := of_decide_eq_true (by assumption); have q483 : x7_1 < (l0.length : Int) := of_decide_eq_true (by assumption); obtain ⟨ad483, e483, hx483_0⟩ := Kd.at_int HR0.out x7_1 p483 q483; cases e483; replace hx483_0 := (HB.out.cell (World.block_lt_of_cell? w _ hx483_0)).trans hx483_0; replace p483 := eq_true p483; replace q483 := eq_true q483) | ((with_reducible refine gate_builtin (b := .append) (xs := #[.tmp 31, .tmp 33]) rfl ?_); at_builtin; refine Kd.R_append (Kd.int .i64) (w0 := w) w.heap.size rfl (.tmp 31) (.tmp 33) 28 3 (.int .i64 0) 8 rfl Try.underlying28 info3 rfl (by decide) (by omega) u5 x5_1 (wrap64 ((wrap64 ((wrap64 ((rd l0 x7_1) - t482)) - x6_1)) + 10)) [.int .i64 (wrap64 ((wrap64 ((wrap64 ((rd l0 x7_1) - t482)) - x6_1)) + 10))] (fun _ => True) (fun _ => False) rfl rfl ?aP (fun _ hk => hk.elim) ?aF ?aO ?aB ?aS ?aL ?_; (case aP => exact rfl); (case aB => exact (by repeat (first | (with_reducible first | exact HB.out | apply below_alloc | apply pw_below_drewN | apply below_drew1) | exact HB.out))); (case aF => exact (fun _ _ => trivial)); (case aO => exact (by (with_reducible repeat (first | apply Kd.R_alloc | apply Kd.R_drewN | apply Kd.R_drew)); exact HO_5.out)); (case aS => exact (below_size (by repeat (first | (with_reducible first | exact HB.out | apply below_alloc | apply pw_below_drewN | apply below_drew1) | exact HB.out)))); (case aL => have := LMc7.out; omega); intro v485 w8 ho hb hg hat; rw [← Ny484.out] at ho; have n0_ := Aside0.mk (hb); have n1_ := Aside0.mk (ho); clear HB; clear HO_5; have HB := n0_; have HO486 := n1_; clear n0_ n1_; clear ho hb hg hat))
      go_roundg k1
      case measure => have := HK1.out; omega
      case rel => exact ⟨(y484), (1), (wrap64 (x7_1 + 1)), rfl, rfl, H', ⟨by have := HK1.out; omega⟩, ⟨by (with_reducible repeat (first | apply Kd.R_alloc | apply Kd.R_drewN | apply Kd.R_drew)); exact HO486.out⟩, ⟨by repeat (first | (with_reducible first | exact HB.out | apply below_alloc | apply pw_below_drewN | apply below_drew1) | exact HB.out)⟩⟩
end Go.Proofs.Ytcepdndhkidehaa.PA
end
section
namespace Go.Proofs.Ytcepdndhkidehaa.PA
open Go.RowKit Go.Proofs.YtcepdndhkidehaaW.PrintWords Go.Proofs.YtcepdndhkidehaaW.PrintLast Go.Proofs.YtcepdndhkidehaaW.PrintMore
attribute [local go_sem] max2_int min2_int max_two min_two max_three min_three max_four min_four   -- for this text's walks alone
set_option linter.unusedVariables false
set_option linter.unusedSimpArgs false

/-! ### numeraryref02_Div: function 44 -/
mutual
def numeraryref02_Div.l0 : Nat → List Int → List Int → List Int → List Int → Int → Option (List Int × List Int)
  | 0, _, _, _, _, _ => none
  | k + 1, x0, x1, x6, x7, x8 => if x8 ≥ 0 then ((numeraryref02_Times.f k x7 10).bind fun t979 => (if 0 ≤ x8 then (if x8 < (x0.length : Int) then ((numeraryref02_Of.f k (IntKind.u64.wrap (rd x0 x8))).bind fun t983 => ((numeraryref02_Add.f k t979 t983).bind fun t986 => (numeraryref02_Div.l1 k x0 x1 x6 t986 x8))) else (none)) else (none))) else ((numeraryref02_trim.f k x6).bind fun t976 => (some (t976, x7)))
def numeraryref02_Div.l1 : Nat → List Int → List Int → List Int → List Int → Int → Option (List Int × List Int)
  | 0, _, _, _, _, _ => none
  | k + 1, x0, x1, x6, x7, x8 => (numeraryref02_Cmp.f k x7 x1).bind fun t989 => (if t989 < 0 then (numeraryref02_Div.l0 k x0 x1 x6 x7 (wrap64 (x8 - 1))) else ((numeraryref02_Sub.f k x7 x1).bind fun t990 => (if 0 ≤ x8 then (if x8 < (x6.length : Int) then (numeraryref02_Div.l1 k x0 x1 (x6.set (x8 : Int).toNat (wrap64 ((rd x6 x8) + 1))) t990 x8) else (none)) else (none))))
end
def numeraryref02_Div.f (k : Nat) (l0 : List Int) (l1 : List Int) : Option (List Int × List Int) := if 0 ≤ (l0.length : Int) then (if ((l0.length : Int) : Int).toNat ≤ 35184372088832 then (numeraryref02_Div.l0 k l0 l1 (List.replicate ((l0.length : Int) : Int).toNat 0) ([] : List Int) (wrap64 ((l0.length : Int) - 1))) else (none)) else (none)
theorem numeraryref02_Div.mono_l : ∀ k, (∀ y0 y1 y2 y3 y4, LeO (numeraryref02_Div.l0 k y0 y1 y2 y3 y4) (numeraryref02_Div.l0 (k + 1) y0 y1 y2 y3 y4)) ∧ (∀ y0 y1 y2 y3 y4, LeO (numeraryref02_Div.l1 k y0 y1 y2 y3 y4) (numeraryref02_Div.l1 (k + 1) y0 y1 y2 y3 y4))
  | 0 => ⟨fun _ _ _ _ _ r h => by simp [numeraryref02_Div.l0] at h, fun _ _ _ _ _ r h => by simp [numeraryref02_Div.l1] at h⟩
  | k + 1 => by
    obtain ⟨ih0, ih1⟩ := numeraryref02_Div.mono_l k
    refine ⟨?_, ?_⟩
    · intro y0 y1 y2 y3 y4
      unfold numeraryref02_Div.l0
      repeat' first
      | (with_reducible exact ih0 _ _ _ _ _)
      | (with_reducible exact ih1 _ _ _ _ _)
      | (with_reducible exact numeraryref02_Add.mono _ _ _)
      | (with_reducible exact numeraryref02_Cmp.mono _ _ _)
      | (with_reducible exact numeraryref02_Of.mono _ _)
      | (with_reducible exact numeraryref02_Sub.mono _ _ _)
      | (with_reducible exact numeraryref02_Times.mono _ _ _)
      | (with_reducible exact numeraryref02_trim.mono _ _)
      | (with_reducible exact LeO.refl _)
      | (with_reducible exact LeO.none _)
      | (with_reducible refine LeO.ite ?_ ?_)
      | (with_reducible refine LeO.bind ?_ (fun _ => ?_))
    intro y0 y1 y2 y3 y4
    unfold numeraryref02_Div.l1
    repeat' first
    | (with_reducible exact ih0 _ _ _ _ _)
    | (with_reducible exact ih1 _ _ _ _ _)
    | (with_reducible exact numeraryref02_Add.mono _ _ _)
    | (with_reducible exact numeraryref02_Cmp.mono _ _ _)
    | (with_reducible exact numeraryref02_Of.mono _ _)
    | (with_reducible exact numeraryref02_Sub.mono _ _ _)
    | (with_reducible exact numeraryref02_Times.mono _ _ _)
    | (with_reducible exact numeraryref02_trim.mono _ _)
    | (with_reducible exact LeO.refl _)
    | (with_reducible exact LeO.none _)
    | (with_reducible refine LeO.ite ?_ ?_)
    | (with_reducible refine LeO.bind ?_ (fun _ => ?_))
    | exact ih0 _ _ _ _ _
    | exact ih1 _ _ _ _ _
    | exact numeraryref02_Add.mono _ _ _
    | exact numeraryref02_Cmp.mono _ _ _
    | exact numeraryref02_Of.mono _ _
    | exact numeraryref02_Sub.mono _ _ _
    | exact numeraryref02_Times.mono _ _ _
    | exact numeraryref02_trim.mono _ _
    | exact LeO.none _
    | refine LeO.ite ?_ ?_
    | refine LeO.bind ?_ (fun _ => ?_)
theorem numeraryref02_Div.mono : ∀ a0 a1 k, LeO (numeraryref02_Div.f k a0 a1) (numeraryref02_Div.f (k + 1) a0 a1) := by
  intro a0 a1 k
  obtain ⟨ih0, ih1⟩ := numeraryref02_Div.mono_l k
  unfold numeraryref02_Div.f
  repeat' first
      | (with_reducible exact ih0 _ _ _ _ _)
      | (with_reducible exact ih1 _ _ _ _ _)
      | (with_reducible exact numeraryref02_Add.mono _ _ _)
      | (with_reducible exact numeraryref02_Cmp.mono _ _ _)
      | (with_reducible exact numeraryref02_Of.mono _ _)
      | (with_reducible exact numeraryref02_Sub.mono _ _ _)
      | (with_reducible exact numeraryref02_Times.mono _ _ _)
      | (with_reducible exact numeraryref02_trim.mono _ _)
      | (with_reducible exact LeO.refl _)
      | (with_reducible exact LeO.none _)
      | (with_reducible refine LeO.ite ?_ ?_)
      | (with_reducible refine LeO.bind ?_ (fun _ => ?_))
set_option maxHeartbeats 8000000 in
set_option maxRecDepth 100000 in
theorem numeraryref02_Div.calls (k : Nat) (A0 : Option Addr) (c0 : Nat) (l0 : List Int) (A1 : Option Addr) (c1 : Nat) (l1 : List Int) (r1 : List Int) (r2 : List Int) (w : World) (hr0 : Kd.C (Kd.int .i64) w A0 l0.length l0) (hc0 : l0.length ≤ c0) (hr1 : Kd.C (Kd.int .i64) w A1 l1.length l1) (hc1 : l1.length ≤ c1) (h : numeraryref02_Div.f k l0 l1 = some (r1, r2)) :
    Calls Try.prog 44 #[.slice A0 l0.length c0, .slice A1 l1.length c1] w fun e w' => ∃ v0_ v1_ : Value, e = .returned (.tuple #[v0_, v1_]) ∧ Kd.R (Kd.int .i64) 3 w' w.heap.size (fun k_ => some k_ ≠ (v1_ : Value).ownBlock) v0_ r1 ∧ Kd.R (Kd.int .i64) 3 w' w.heap.size (fun k_ => some k_ ≠ (v0_ : Value).ownBlock) v1_ r2 ∧ Below w.heap.size w w' := by
  have HR0 := Aside0.mk hr0
  have HC0 := Aside0.mk hc0
  clear hr0 hc0
  have HR1 := Aside0.mk hr1
  have HC1 := Aside0.mk hc1
  clear hr1 hc1
  have HB := Aside0.mk (Below.refl w.heap.size w)
  have H : (if 0 ≤ (l0.length : Int) then (if ((l0.length : Int) : Int).toNat ≤ 35184372088832 then (numeraryref02_Div.l0 k l0 l1 (List.replicate ((l0.length : Int) : Int).toNat 0) ([] : List Int) (wrap64 ((l0.length : Int) - 1))) else (none)) else (none)) = some (r1, r2) := h
  clear h
  by_cases c3 : 0 ≤ (l0.length : Int)
  rotate_left
  · rw [if_neg c3] at H
    exact absurd H (by simp)

  rw [if_pos c3] at H
  have c3b0 := eq_true c3
  have c3b1 : decide (0 ≤ (l0.length : Int)) = true := decide_eq_true c3
  clear c3
  by_cases c4 : ((l0.length : Int) : Int).toNat ≤ 35184372088832
  rotate_left
  · rw [if_neg c4] at H
    exact absurd H (by simp)
  rw [if_pos c4] at H
  have c4b0 := eq_true c4
  have c4b1 : decide (((l0.length : Int) : Int).toNat ≤ 35184372088832) = true := decide_eq_true c4
  clear c4
  obtain ⟨y973, hy973⟩ : ∃ y_ : List Int, y_ = (List.replicate ((l0.length : Int) : Int).toNat 0) := ⟨_, rfl⟩
  replace H : (numeraryref02_Div.l0 k l0 l1 y973 ([] : List Int) (wrap64 ((l0.length : Int) - 1))) = some (r1, r2) := by first | (rw [hy973]; with_reducible exact H) | (have H2_ := (Option.bind_some _ _).symm.trans H; rw [hy973]; with_reducible exact H2_) | (have H2_ := (Option.bind_some _ _).symm.trans H; with_reducible exact H2_) | with_reducible exact H | (rw [hy973]; exact H) | exact H
  have Ny973 := Aside0.mk hy973
  clear hy973
  have H' := Aside0.mk H
  clear H
  go_enter Try.func44, Try.ntmps44
  go_wp2_with (first | ((with_reducible refine gate_dst (N := 13) rfl ?_); refine Kd.R_make (Kd.int .i64) _ 3 rfl (N := 13) rfl 28 _ _ rfl (l0.length : Int) rfl rfl Try.underlying28 (.int .i64 0) 8 info3 rfl (by decide) (by omega) 0 (ok := fun _ => True) (okp := fun _ => True) rfl (fun _ hk => hk) trivial (of_decide_eq_true (by assumption)) (Nat.le_trans (Nat.mul_le_mul_right _ (of_decide_eq_true (by assumption) : (l0.length : Int).toNat ≤ 35184372088832)) (by omega)) (Below.refl _ _) (Nat.le_refl _) ?_; intro v974 w5 ho6 hb hg_ hnew_; clear hg_ hnew_; (first | rw [← Ny973.out] at ho6 | (simp only [Int.reduceToNat] at ho6; rw [← Ny973.out] at ho6)); have HO975 := Aside0.mk (Kd.R_lower ho6 (below_size (by repeat (first | (with_reducible first | exact HB.out | apply below_alloc | apply pw_below_drewN | apply below_drew1) | exact HB.out)))); replace HB := Aside0.mk (below_step (by repeat (first | (with_reducible first | exact HB.out | apply below_alloc | apply pw_below_drewN | apply below_drew1) | exact HB.out)) hb); clear hb ho6))
  (try simp only [Act.put, List.setIfInBounds_toArray, List.set_cons_zero, List.set_cons_succ])
  go_loopg [7, 8] k (fun kq v7 v8 w' => ∃ (x6_1 : List Int) (x7_1 : List Int) (x8_1 : Int), v8 = .int .i64 x8_1 ∧ Aside0 (numeraryref02_Div.l0 kq l0 l1 x6_1 x7_1 x8_1 = some (r1, r2)) ∧ Aside0 (kq ≤ k) ∧ Aside0 (Kd.R (Kd.int .i64) 3 w' w.heap.size (fun k_ => some k_ ≠ (v7 : Value).ownBlock) v974 x6_1) ∧ Aside0 (Kd.R (Kd.int .i64) 3 w' w.heap.size (fun k_ => some k_ ≠ (v974 : Value).ownBlock) v7 x7_1) ∧ Aside0 (Below w.heap.size w w'))
  case atStart => exact ⟨(y973), (([] : List Int)), (wrap64 ((l0.length : Int) - 1)), rfl, H', ⟨Nat.le_refl _⟩, ⟨by (with_reducible repeat (first | apply Kd.R_alloc | apply Kd.R_drewN | apply Kd.R_drew)); exact Kd.R_mono HO975.out (fun _ hk => (by simp [Value.ownBlock]))⟩, ⟨by first | exact Kd.R_nil _ _ _ _ _ | exact Kd.N_nil _ _ _ _ _ | exact Kd.V_nil _ _ _ _ _ | exact Kd.Q_nil _ _ _ _ _ | exact Kd.S_nil _ _ _ _ _⟩, ⟨by repeat (first | (with_reducible first | exact HB.out | apply below_alloc | apply pw_below_drewN | apply below_drew1) | exact HB.out)⟩⟩
  case round =>
    clear H'
    try clear c1
    try clear p2
    try clear c3
    try clear c3b0
    try clear c3b1
    try clear c4
    try clear c4b0
    try clear c4b1
    try clear p6
    obtain ⟨x6_1, x7_1, x8_1, rfl, HA, HK1, HO_6, HO_7, HB⟩ := hrel
    cases gk with
    | zero => exact absurd HA.out (by simp [numeraryref02_Div.l0])
    | succ k1 =>
      have H := HA.out
      clear HA
      simp only [numeraryref02_Div.l0] at H
      by_cases c7 : x8_1 ≥ 0
      rotate_left
      · rw [if_neg c7] at H
        have c7b0 : decide (0 ≤ x8_1) = false := decide_eq_false c7
        clear c7
        replace H := Option.bind_eq_some_iff.mp H
        obtain ⟨t976, A310, H⟩ := H
        have A31 := Aside0.mk A310
        clear A310
        simp only [Option.some.injEq, Prod.mk.injEq] at H
        obtain ⟨rfl, rfl⟩ := H
        obtain ⟨Ao32, co32, eo32⟩ := Kd.R_slice HO_6.out
        subst eo32
        go_wp2_with (first | ((with_reducible refine gate_callee (f := 50) rfl ?_); refine goesL_ (some 49) rfl rfl Try.func50 (by kernel_rfl) rfl #[.slice Ao32 x6_1.length co32] rfl (by (try simp only [List.map_toArray, List.map_cons, List.map_nil]); first | done | rfl | (simp only [List.length_drop, List.length_take]; rfl)) ?_; (with_reducible refine (numeraryref02_trim.calls k1 (fun k_ => some k_ = (.slice Ao32 x6_1.length co32 : Value).ownBlock) (.slice Ao32 x6_1.length co32) x6_1 t976 w _ ?side1 ?side2 A31.out).mono ?_); (case side1 => repeat (first | (with_reducible first | exact HB.out | apply below_alloc | apply pw_below_drewN | apply below_drew1) | exact HB.out)); (case side2 => exact Kd.R_tight rfl HO_6.out); rintro e w33 ⟨v977, rfl, ho0, hb, hkp⟩; refine ⟨_, rfl, ?_⟩; have n0_ := Aside0.mk (Kd.R_mono (ok' := fun k_ => some k_ ≠ (v977 : Value).ownBlock) (Kd.R_keptB (HO_7.out) hkp (fun k_ hk_ hs_ => (hk_) hs_)) (fun k_ hk_ => fun e_ => Or.elim (ho0.1 k_ e_.symm) (fun hs_ => hk_.2.1 hs_) (fun hn_ => Nat.not_le.2 hk_.2.2 hn_))); have n1_ := Aside0.mk (Kd.R_mono (ok' := fun k_ => some k_ ≠ (u7 : Value).ownBlock) ho0 (fun k_ hk_ => Or.elim hk_ (fun hs_ => fun e_ => (((HO_7.out).1 k_ e_.symm)) hs_) (fun hn_ => (Kd.fresh' (Kd.R_lt (by (with_reducible repeat (first | apply Kd.R_alloc | apply Kd.R_drewN | apply Kd.R_drew)); exact HO_7.out)) k_ hn_)))); have n2_ := Aside0.mk (hb); clear HO_7; clear HB; clear HO_6; have HO_7 := n0_; have HO978 := n1_; have HB := n2_; clear n0_ n1_ n2_))
        go_ret2
        exact ⟨_, _, rfl, by (with_reducible repeat (first | apply Kd.R_alloc | apply Kd.R_drewN | apply Kd.R_drew)); exact HO978.out, by (with_reducible repeat (first | apply Kd.R_alloc | apply Kd.R_drewN | apply Kd.R_drew)); exact HO_7.out, by repeat (first | (with_reducible first | exact HB.out | apply below_alloc | apply pw_below_drewN | apply below_drew1) | exact HB.out)⟩
      rw [if_pos c7] at H
      have c7b0 : decide (0 ≤ x8_1) = true := decide_eq_true c7
      clear c7
      replace H := Option.bind_eq_some_iff.mp H
      obtain ⟨t979, A80, H⟩ := H
      have A8 := Aside0.mk A80
      clear A80
      by_cases c9 : 0 ≤ x8_1
      rotate_left
      · rw [if_neg c9] at H
        exact absurd H (by simp)
      rw [if_pos c9] at H
      have c9b0 : decide (0 ≤ x8_1) = true := decide_eq_true c9
      clear c9
      by_cases c10 : x8_1 < (l0.length : Int)
      rotate_left
      · rw [if_neg c10] at H
        exact absurd H (by simp)
      rw [if_pos c10] at H
      have c10b0 : decide (x8_1 < (l0.length : Int)) = true := decide_eq_true c10
      clear c10
      replace H := Option.bind_eq_some_iff.mp H
      obtain ⟨t983, A110, H⟩ := H
      have A11 := Aside0.mk A110
      clear A110
      replace H := Option.bind_eq_some_iff.mp H
      obtain ⟨t986, A120, H⟩ := H
      have A12 := Aside0.mk A120
      clear A120
      have H' := Aside0.mk H
      clear H
      obtain ⟨Ao13, co13, eo13⟩ := Kd.R_slice HO_7.out
      subst eo13
      go_wp2_with (first | ((with_reducible refine gate_callee (f := 20) rfl ?_); refine goesL_ (some 22) rfl rfl Try.func20 (by kernel_rfl) rfl #[.slice Ao13 x7_1.length co13, .int .i64 10] rfl (by (try simp only [List.map_toArray, List.map_cons, List.map_nil]); first | done | rfl | (simp only [List.length_drop, List.length_take]; rfl)) ?_; (with_reducible refine (numeraryref02_Times.calls k1 _ _ x7_1 10 t979 _ ?side1 ?side2 A8.out).mono ?_); (case side1 => repeat (first | exact (Kd.R_reads' HO_7.out).2.2 | (with_reducible refine Kd.C_alloc ?_ _) | (with_reducible refine Kd.C_drewN ?_ _) | (with_reducible refine Kd.C_drew ?_))); (case side2 => exact (Kd.R_reads' HO_7.out).2.1); rintro e w14 ⟨v980, rfl, ho0, hb⟩; refine ⟨_, rfl, ?_⟩; have HO981 := Aside0.mk (Kd.R_lower (Kd.R_new' (Kd.R_new' ho0 (Kd.R_lt (by (with_reducible repeat (first | apply Kd.R_alloc | apply Kd.R_drewN | apply Kd.R_drew)); exact HO_6.out))) (Kd.R_lt (by (with_reducible repeat (first | apply Kd.R_alloc | apply Kd.R_drewN | apply Kd.R_drew)); exact HO_7.out))) (below_size (by repeat (first | (with_reducible first | exact HB.out | apply below_alloc | apply pw_below_drewN | apply below_drew1) | exact HB.out)))); replace HO_6 := Aside0.mk (Kd.R_elder' (by (with_reducible repeat (first | apply Kd.R_alloc | apply Kd.R_drewN | apply Kd.R_drew)); exact HO_6.out) (Kd.R_base ho0) hb); replace HO_7 := Aside0.mk (Kd.R_elder' (by (with_reducible repeat (first | apply Kd.R_alloc | apply Kd.R_drewN | apply Kd.R_drew)); exact HO_7.out) (Kd.R_base ho0) hb); replace HB := Aside0.mk (below_step (by repeat (first | (with_reducible first | exact HB.out | apply below_alloc | apply pw_below_drewN | apply below_drew1) | exact HB.out)) hb); have p982 : 0 ≤ (x8_1 : Int) := of_decide_eq_true (by assumption); have q982 : x8_1 < (l0.length : Int) := of_decide_eq_true (by assumption); obtain ⟨ad982, e982, hx982_0⟩ := Kd.at_int HR0.out x8_1 p982 q982; cases e982; replace hx982_0 := (HB.out.cell (World.block_lt_of_cell? w _ hx982_0)).trans hx982_0; replace p982 := eq_true p982; replace q982 := eq_true q982) | ((with_reducible refine gate_callee (f := 27) rfl ?_); refine goesL_ (some 28) rfl rfl Try.func27 (by kernel_rfl) rfl #[.int .u64 (IntKind.u64.wrap (rd l0 x8_1))] rfl (by (try simp only [List.map_toArray, List.map_cons, List.map_nil]); first | done | rfl | (simp only [List.length_drop, List.length_take]; rfl)) ?_; (with_reducible refine (numeraryref02_Of.calls k1 (IntKind.u64.wrap (rd l0 x8_1)) t983 _ A11.out).mono ?_); rintro e w15 ⟨v984, rfl, ho0, hb⟩; refine ⟨_, rfl, ?_⟩; have HO985 := Aside0.mk (Kd.R_lower (Kd.R_new' (Kd.R_new' (Kd.R_new' ho0 (Kd.R_lt (by (with_reducible repeat (first | apply Kd.R_alloc | apply Kd.R_drewN | apply Kd.R_drew)); exact HO_6.out))) (Kd.R_lt (by (with_reducible repeat (first | apply Kd.R_alloc | apply Kd.R_drewN | apply Kd.R_drew)); exact HO_7.out))) (Kd.R_lt (by (with_reducible repeat (first | apply Kd.R_alloc | apply Kd.R_drewN | apply Kd.R_drew)); exact HO981.out))) (below_size (by repeat (first | (with_reducible first | exact HB.out | apply below_alloc | apply pw_below_drewN | apply below_drew1) | exact HB.out)))); replace HO_6 := Aside0.mk (Kd.R_elder' (by (with_reducible repeat (first | apply Kd.R_alloc | apply Kd.R_drewN | apply Kd.R_drew)); exact HO_6.out) (Kd.R_base ho0) hb); replace HO_7 := Aside0.mk (Kd.R_elder' (by (with_reducible repeat (first | apply Kd.R_alloc | apply Kd.R_drewN | apply Kd.R_drew)); exact HO_7.out) (Kd.R_base ho0) hb); replace HO981 := Aside0.mk (Kd.R_elder' (by (with_reducible repeat (first | apply Kd.R_alloc | apply Kd.R_drewN | apply Kd.R_drew)); exact HO981.out) (Kd.R_base ho0) hb); replace HB := Aside0.mk (below_step (by repeat (first | (with_reducible first | exact HB.out | apply below_alloc | apply pw_below_drewN | apply below_drew1) | exact HB.out)) hb); obtain ⟨Ao16, co16, eo16⟩ := Kd.R_slice HO981.out; subst eo16; obtain ⟨Ao17, co17, eo17⟩ := Kd.R_slice HO985.out; subst eo17) | ((with_reducible refine gate_callee (f := 39) rfl ?_); refine goesL_ (some 31) rfl rfl Try.func39 (by kernel_rfl) rfl #[.slice Ao16 t979.length co16, .slice Ao17 t983.length co17] rfl (by (try simp only [List.map_toArray, List.map_cons, List.map_nil]); first | done | rfl | (simp only [List.length_drop, List.length_take]; rfl)) ?_; (with_reducible refine (numeraryref02_Add.calls k1 _ _ t979 _ _ t983 t986 _ ?side1 ?side2 ?side3 ?side4 A12.out).mono ?_); (case side1 => repeat (first | exact (Kd.R_reads' HO981.out).2.2 | (with_reducible refine Kd.C_alloc ?_ _) | (with_reducible refine Kd.C_drewN ?_ _) | (with_reducible refine Kd.C_drew ?_))); (case side2 => exact (Kd.R_reads' HO981.out).2.1); (case side3 => repeat (first | exact (Kd.R_reads' HO985.out).2.2 | (with_reducible refine Kd.C_alloc ?_ _) | (with_reducible refine Kd.C_drewN ?_ _) | (with_reducible refine Kd.C_drew ?_))); (case side4 => exact (Kd.R_reads' HO985.out).2.1); rintro e w18 ⟨v987, rfl, ho0, hb⟩; refine ⟨_, rfl, ?_⟩; have HO988 := Aside0.mk (Kd.R_lower (Kd.R_new' (Kd.R_new' (Kd.R_new' (Kd.R_new' ho0 (Kd.R_lt (by (with_reducible repeat (first | apply Kd.R_alloc | apply Kd.R_drewN | apply Kd.R_drew)); exact HO_6.out))) (Kd.R_lt (by (with_reducible repeat (first | apply Kd.R_alloc | apply Kd.R_drewN | apply Kd.R_drew)); exact HO_7.out))) (Kd.R_lt (by (with_reducible repeat (first | apply Kd.R_alloc | apply Kd.R_drewN | apply Kd.R_drew)); exact HO981.out))) (Kd.R_lt (by (with_reducible repeat (first | apply Kd.R_alloc | apply Kd.R_drewN | apply Kd.R_drew)); exact HO985.out))) (below_size (by repeat (first | (with_reducible first | exact HB.out | apply below_alloc | apply pw_below_drewN | apply below_drew1) | exact HB.out)))); replace HO_6 := Aside0.mk (Kd.R_elder' (by (with_reducible repeat (first | apply Kd.R_alloc | apply Kd.R_drewN | apply Kd.R_drew)); exact HO_6.out) (Kd.R_base ho0) hb); replace HO_7 := Aside0.mk (Kd.R_elder' (by (with_reducible repeat (first | apply Kd.R_alloc | apply Kd.R_drewN | apply Kd.R_drew)); exact HO_7.out) (Kd.R_base ho0) hb); replace HO981 := Aside0.mk (Kd.R_elder' (by (with_reducible repeat (first | apply Kd.R_alloc | apply Kd.R_drewN | apply Kd.R_drew)); exact HO981.out) (Kd.R_base ho0) hb); replace HO985 := Aside0.mk (Kd.R_elder' (by (with_reducible repeat (first | apply Kd.R_alloc | apply Kd.R_drewN | apply Kd.R_drew)); exact HO985.out) (Kd.R_base ho0) hb); replace HB := Aside0.mk (below_step (by repeat (first | (with_reducible first | exact HB.out | apply below_alloc | apply pw_below_drewN | apply below_drew1) | exact HB.out)) hb)))
      (try simp only [Act.put, List.setIfInBounds_toArray, List.set_cons_zero, List.set_cons_succ])
      go_loopg [7] k1 (fun kq v7 w' => ∃ (x6_2 : List Int) (x7_2 : List Int), Aside0 (numeraryref02_Div.l1 kq l0 l1 x6_2 x7_2 x8_1 = some (r1, r2)) ∧ Aside0 (kq ≤ k1) ∧ Aside0 (Kd.R (Kd.int .i64) 3 w' w.heap.size (fun k_ => some k_ ≠ (v7 : Value).ownBlock) v974 x6_2) ∧ Aside0 (Kd.R (Kd.int .i64) 3 w' w.heap.size (fun k_ => some k_ ≠ (v974 : Value).ownBlock) v7 x7_2) ∧ Aside0 (Below w.heap.size w w'))
      case atStart => exact ⟨(x6_1), (t986), H', ⟨Nat.le_refl _⟩, ⟨by (with_reducible repeat (first | apply Kd.R_alloc | apply Kd.R_drewN | apply Kd.R_drew)); exact Kd.R_mono HO_6.out (fun _ hk => hk.2)⟩, ⟨by (with_reducible repeat (first | apply Kd.R_alloc | apply Kd.R_drewN | apply Kd.R_drew)); exact Kd.R_mono HO988.out (fun _ hk => hk.1.1.1.2)⟩, ⟨by repeat (first | (with_reducible first | exact HB.out | apply below_alloc | apply pw_below_drewN | apply below_drew1) | exact HB.out)⟩⟩
      case round =>
        clear H'
        try clear c1
        try clear c2
        try clear p2
        try clear c3
        try clear c3b0
        try clear c3b1
        try clear c4
        try clear c4b0
        try clear c4b1
        try clear p6
        try clear c7
        try clear c7b0
        try clear c9
        try clear c9b0
        try clear p9
        try clear q9
        try clear hx9
        try clear c10
        try clear c10b0
        try clear hx982_0
        try clear p2
        try clear p6
        try clear p982
        try clear q982
        obtain ⟨x6_2, x7_2, HA, HK2, HO_6, HO_7, HB⟩ := hrel
        cases gk with
        | zero => exact absurd HA.out (by simp [numeraryref02_Div.l1])
        | succ k2 =>
          have H := HA.out
          clear HA
          simp only [numeraryref02_Div.l1] at H
          replace H := Option.bind_eq_some_iff.mp H
          obtain ⟨t989, A190, H⟩ := H
          have A19 := Aside0.mk A190
          clear A190
          by_cases c20 : t989 < 0
          · rw [if_pos c20] at H
            have c20b0 : decide (t989 < 0) = true := decide_eq_true c20
            clear c20
            have H' := Aside0.mk H
            clear H
            obtain ⟨Ao21, co21, eo21⟩ := Kd.R_slice HO_7.out
            subst eo21
            go_wp2_with (first | ((with_reducible refine gate_callee (f := 22) rfl ?_); refine goesL_ (some 34) rfl rfl Try.func22 (by kernel_rfl) rfl #[.slice Ao21 x7_2.length co21, .slice A1 l1.length c1] rfl (by (try simp only [List.map_toArray, List.map_cons, List.map_nil]); first | done | rfl | (simp only [List.length_drop, List.length_take]; rfl)) ?_; (with_reducible refine (numeraryref02_Cmp.calls k2 _ _ x7_2 _ _ l1 t989 _ ?side1 ?side2 ?side3 ?side4 A19.out).mono ?_); (case side1 => repeat (first | exact (Kd.R_reads' HO_7.out).2.2 | (with_reducible refine Kd.C_alloc ?_ _) | (with_reducible refine Kd.C_drewN ?_ _) | (with_reducible refine Kd.C_drew ?_))); (case side2 => exact (Kd.R_reads' HO_7.out).2.1); (case side3 => repeat (first | exact (Kd.C_below HR1.out HB.out) | (with_reducible refine Kd.C_alloc ?_ _) | (with_reducible refine Kd.C_drewN ?_ _) | (with_reducible refine Kd.C_drew ?_))); (case side4 => exact HC1.out); rintro e w' ⟨rfl, ⟨nd, rfl⟩⟩; refine ⟨_, rfl, ?_⟩))
            go_roundg k2
            case measure => have := HK1.out; have := HK2.out; omega
            case rel => exact ⟨(x6_2), (x7_2), (wrap64 (x8_1 - 1)), rfl, H', ⟨by have := HK1.out; have := HK2.out; omega⟩, ⟨by (with_reducible repeat (first | apply Kd.R_alloc | apply Kd.R_drewN | apply Kd.R_drew)); exact HO_6.out⟩, ⟨by (with_reducible repeat (first | apply Kd.R_alloc | apply Kd.R_drewN | apply Kd.R_drew)); exact HO_7.out⟩, ⟨by repeat (first | (with_reducible first | exact HB.out | apply below_alloc | apply pw_below_drewN | apply below_drew1) | exact HB.out)⟩⟩
          rw [if_neg c20] at H
          have c20b0 : decide (t989 < 0) = false := decide_eq_false c20
          clear c20
          replace H := Option.bind_eq_some_iff.mp H
          obtain ⟨t990, A220, H⟩ := H
          have A22 := Aside0.mk A220
          clear A220
          by_cases c23 : 0 ≤ x8_1
          rotate_left
          · rw [if_neg c23] at H
            exact absurd H (by simp)
          rw [if_pos c23] at H
          have c23b0 : decide (0 ≤ x8_1) = true := decide_eq_true c23
          clear c23
          by_cases c24 : x8_1 < (x6_2.length : Int)
          rotate_left
          · rw [if_neg c24] at H
            exact absurd H (by simp)
          rw [if_pos c24] at H
          have c24b0 : decide (x8_1 < (x6_2.length : Int)) = true := decide_eq_true c24
          clear c24
          obtain ⟨y994, hy994⟩ : ∃ y_ : List Int, y_ = (x6_2.set (x8_1 : Int).toNat (wrap64 ((rd x6_2 x8_1) + 1))) := ⟨_, rfl⟩
          replace H : (numeraryref02_Div.l1 k2 l0 l1 y994 t990 x8_1) = some (r1, r2) := by first | (rw [hy994]; with_reducible exact H) | (have H2_ := (Option.bind_some _ _).symm.trans H; rw [hy994]; with_reducible exact H2_) | (have H2_ := (Option.bind_some _ _).symm.trans H; with_reducible exact H2_) | with_reducible exact H | (rw [hy994]; exact H) | exact H
          have Ny994 := Aside0.mk hy994
          clear hy994
          have H' := Aside0.mk H
          clear H
          obtain ⟨Ao26, co26, eo26⟩ := Kd.R_slice HO_7.out
          subst eo26
          go_wp2_with (first | ((with_reducible refine gate_callee (f := 22) rfl ?_); refine goesL_ (some 34) rfl rfl Try.func22 (by kernel_rfl) rfl #[.slice Ao26 x7_2.length co26, .slice A1 l1.length c1] rfl (by (try simp only [List.map_toArray, List.map_cons, List.map_nil]); first | done | rfl | (simp only [List.length_drop, List.length_take]; rfl)) ?_; (with_reducible refine (numeraryref02_Cmp.calls k2 _ _ x7_2 _ _ l1 t989 _ ?side1 ?side2 ?side3 ?side4 A19.out).mono ?_); (case side1 => repeat (first | exact (Kd.R_reads' HO_7.out).2.2 | (with_reducible refine Kd.C_alloc ?_ _) | (with_reducible refine Kd.C_drewN ?_ _) | (with_reducible refine Kd.C_drew ?_))); (case side2 => exact (Kd.R_reads' HO_7.out).2.1); (case side3 => repeat (first | exact (Kd.C_below HR1.out HB.out) | (with_reducible refine Kd.C_alloc ?_ _) | (with_reducible refine Kd.C_drewN ?_ _) | (with_reducible refine Kd.C_drew ?_))); (case side4 => exact HC1.out); rintro e w' ⟨rfl, ⟨nd, rfl⟩⟩; refine ⟨_, rfl, ?_⟩; (try (rw [drewN_self wr]; generalize hq_ : World.drewN wr _ = wr; have n0_ : Aside0 (Kd.R (Kd.int .i64) 3 wr w.heap.size (fun k_ => some k_ ≠ (.slice Ao26 x7_2.length co26 : Value).ownBlock) v974 x6_2) := ⟨by rw [← hq_]; exact (by (with_reducible repeat (first | apply Kd.R_alloc | apply Kd.R_drewN | apply Kd.R_drew)); exact HO_6.out)⟩; have n1_ : Aside0 (Kd.R (Kd.int .i64) 3 wr w.heap.size (fun k_ => some k_ ≠ (v974 : Value).ownBlock) (.slice Ao26 x7_2.length co26) x7_2) := ⟨by rw [← hq_]; exact (by (with_reducible repeat (first | apply Kd.R_alloc | apply Kd.R_drewN | apply Kd.R_drew)); exact HO_7.out)⟩; have n2_ : Aside0 (Below w.heap.size w wr) := ⟨by rw [← hq_]; exact (by repeat (first | (with_reducible first | exact HB.out | apply below_alloc | apply pw_below_drewN | apply below_drew1) | exact HB.out))⟩; clear HO_6 HO_7 HB hq_; have HO_6 := n0_; have HO_7 := n1_; have HB := n2_; clear n0_ n1_ n2_))) | ((with_reducible refine gate_callee (f := 40) rfl ?_); refine goesL_ (some 39) rfl rfl Try.func40 (by kernel_rfl) rfl #[.slice Ao26 x7_2.length co26, .slice A1 l1.length c1] rfl (by (try simp only [List.map_toArray, List.map_cons, List.map_nil]); first | done | rfl | (simp only [List.length_drop, List.length_take]; rfl)) ?_; (with_reducible refine (numeraryref02_Sub.calls k2 _ _ x7_2 _ _ l1 t990 _ ?side1 ?side2 ?side3 ?side4 A22.out).mono ?_); (case side1 => repeat (first | exact (Kd.R_reads' HO_7.out).2.2 | (with_reducible refine Kd.C_alloc ?_ _) | (with_reducible refine Kd.C_drewN ?_ _) | (with_reducible refine Kd.C_drew ?_))); (case side2 => exact (Kd.R_reads' HO_7.out).2.1); (case side3 => repeat (first | exact (Kd.C_below HR1.out HB.out) | (with_reducible refine Kd.C_alloc ?_ _) | (with_reducible refine Kd.C_drewN ?_ _) | (with_reducible refine Kd.C_drew ?_))); (case side4 => exact HC1.out); rintro e w27 ⟨v991, rfl, ho0, hb⟩; refine ⟨_, rfl, ?_⟩; have HO992 := Aside0.mk (Kd.R_lower (Kd.R_new' (Kd.R_new' ho0 (Kd.R_lt (by (with_reducible repeat (first | apply Kd.R_alloc | apply Kd.R_drewN | apply Kd.R_drew)); exact HO_6.out))) (Kd.R_lt (by (with_reducible repeat (first | apply Kd.R_alloc | apply Kd.R_drewN | apply Kd.R_drew)); exact HO_7.out))) (below_size (by repeat (first | (with_reducible first | exact HB.out | apply below_alloc | apply pw_below_drewN | apply below_drew1) | exact HB.out)))); replace HO_6 := Aside0.mk (Kd.R_elder' (by (with_reducible repeat (first | apply Kd.R_alloc | apply Kd.R_drewN | apply Kd.R_drew)); exact HO_6.out) (Kd.R_base ho0) hb); replace HO_7 := Aside0.mk (Kd.R_elder' (by (with_reducible repeat (first | apply Kd.R_alloc | apply Kd.R_drewN | apply Kd.R_drew)); exact HO_7.out) (Kd.R_base ho0) hb); replace HB := Aside0.mk (below_step (by repeat (first | (with_reducible first | exact HB.out | apply below_alloc | apply pw_below_drewN | apply below_drew1) | exact HB.out)) hb); obtain ⟨Ao28, co28, eo28⟩ := Kd.R_slice HO_6.out; subst eo28; have p993 : 0 ≤ (x8_1 : Int) := of_decide_eq_true (by assumption); have q993 : x8_1 < (x6_2.length : Int) := of_decide_eq_true (by assumption); obtain ⟨ad993, e993, hx993_0⟩ := Kd.at_int (Kd.R_reads' HO_6.out).2.2 x8_1 p993 q993; cases e993; replace p993 := eq_true p993; replace q993 := eq_true q993; have p25 : 0 ≤ (x8_1 : Int) := of_decide_eq_true (by assumption); have q25 : (x8_1 : Int) < ((x6_2.length : Int) : Int) := of_decide_eq_true (by assumption); obtain ⟨go25, co25, eo25, gb25, gl25, cl25, HG25⟩ := Kd.R_form HO_6.out (by omega); (first | cases eo25 | (injection eo25 with ea_ en_ ec_; (first | subst ea_ | (injection ea_ with ea_; subst ea_)); subst ec_; clear en_)); have GB25 := Aside0.mk gb25; have GG25 := Aside0.mk HG25; clear gb25 gl25 HG25; (first | simp only [add_plain] at hx993_0 | skip); obtain ⟨hx25_0, hf25_0⟩ := Kd.R_celln 0 HO_6.out (x8_1 : Int) p25 q25; replace p25 := eq_true p25; replace q25 := eq_true q25; obtain ⟨hy29_, hz29_⟩ := Kd.R_celln 0 HO_6.out (x8_1 : Int) (of_decide_eq_true (by assumption)) (of_decide_eq_true (by assumption)); have HP29 := Kd.R_putg HO_6.out (x8_1 : Int) (wrap64 ((rd x6_2 x8_1) + 1))) | ((with_reducible refine gate_store (t := 3) (p := 47) rfl ?_); refine store_event (t := 3) (p := 47) (v := ?vo_w30) (w1 := (w27.setCell ⟨go25, (x8_1 : Int).toNat, none⟩ (.int .i64 (wrap64 ((rd x6_2 x8_1) + 1))))) ?hg ?ho ?hn ?hr ?_; (case ho => rfl); (case hg => rfl); (case hn => rfl); (case hr => first | (go_simp; done) | (go_simp; rfl)); intro w30 hw; have hg : w27.grownBy w30 (some go25) := (by rw [hw]; exact HP29.2); have hp_ : Kd.R (Kd.int .i64) 3 w30 w.heap.size (fun k_ => some k_ ≠ (.slice Ao26 x7_2.length co26 : Value).ownBlock ∧ some k_ ≠ (v991 : Value).ownBlock) (.slice (some ⟨go25, 0, none⟩) x6_2.length co28) y994 := (by rw [hw, Ny994.out]; exact HP29.1); clear HP29; replace HO_6 := Aside0.mk (hp_); replace HO_7 := Aside0.mk (Kd.R_after (v := (.slice (some ⟨go25, 0, none⟩) x6_2.length co28)) (v1 := (.slice (some ⟨go25, 0, none⟩) x6_2.length co28)) (ok := (fun k_ => some k_ ≠ (v991 : Value).ownBlock)) (by (with_reducible repeat (first | apply Kd.R_alloc | apply Kd.R_drewN | apply Kd.R_drew)); exact Kd.R_mono HO_7.out (fun _ hk => ⟨hk.2, hk.1⟩)) hg (.inl rfl)); replace HO992 := Aside0.mk (Kd.R_after (v := (.slice (some ⟨go25, 0, none⟩) x6_2.length co28)) (v1 := (.slice (some ⟨go25, 0, none⟩) x6_2.length co28)) (ok := (fun k_ => some k_ ≠ (.slice Ao26 x7_2.length co26 : Value).ownBlock)) (by (with_reducible repeat (first | apply Kd.R_alloc | apply Kd.R_drewN | apply Kd.R_drew)); exact Kd.R_mono HO992.out (fun _ hk => ⟨hk.2, hk.1.2⟩)) hg (.inl rfl)); replace HB := Aside0.mk ((by rw [hw]; exact below_set (HB.out) GB25.out : Below w.heap.size w w30)); clear hg hw hp_))
          go_roundg k2
          case measure => have := HK1.out; have := HK2.out; omega
          case rel => exact ⟨(y994), (t990), H', ⟨by have := HK1.out; have := HK2.out; omega⟩, ⟨by (with_reducible repeat (first | apply Kd.R_alloc | apply Kd.R_drewN | apply Kd.R_drew)); exact Kd.R_mono HO_6.out (fun _ hk => hk.2)⟩, ⟨by (with_reducible repeat (first | apply Kd.R_alloc | apply Kd.R_drewN | apply Kd.R_drew)); exact Kd.R_mono HO992.out (fun _ hk => hk.2)⟩, ⟨by repeat (first | (with_reducible first | exact HB.out | apply below_alloc | apply pw_below_drewN | apply below_drew1) | exact HB.out)⟩⟩
end Go.Proofs.Ytcepdndhkidehaa.PA
end
section
namespace Go.Proofs.Ytcepdndhkidehaa.PA
open Go.RowKit Go.Proofs.YtcepdndhkidehaaW.PrintWords Go.Proofs.YtcepdndhkidehaaW.PrintLast Go.Proofs.YtcepdndhkidehaaW.PrintMore
attribute [local go_sem] max2_int min2_int max_two min_two max_three min_three max_four min_four   -- for this text's walks alone
set_option linter.unusedVariables false
set_option linter.unusedSimpArgs false

/-! ### numerarylaw04_of: function 45 -/
def numerarylaw04_of.f (k : Nat) (l0_0 : List Int) : Option (List Int) := (nat_Nat_Limbs.f l0_0).bind fun t996 => ((numeraryref02_Made.f k t996).bind fun t999 => (some t999))
theorem numerarylaw04_of.mono : ∀ a0 k, LeO (numerarylaw04_of.f k a0) (numerarylaw04_of.f (k + 1) a0) := by
  intro a0 k
  unfold numerarylaw04_of.f
  repeat' first
      | (with_reducible exact numeraryref02_Made.mono _ _)
      | (with_reducible exact LeO.refl _)
      | (with_reducible exact LeO.none _)
      | (with_reducible refine LeO.ite ?_ ?_)
      | (with_reducible refine LeO.bind ?_ (fun _ => ?_))
set_option maxHeartbeats 8000000 in
set_option maxRecDepth 100000 in
theorem numerarylaw04_of.calls (k : Nat) (A0_0 : Option Addr) (c0_0 : Nat) (l0_0 : List Int) (r : List Int) (w : World) (hr0_0 : Kd.C (Kd.int .u32) w A0_0 l0_0.length l0_0) (hc0_0 : l0_0.length ≤ c0_0) (h : numerarylaw04_of.f k l0_0 = some r) :
    Calls Try.prog 45 #[.agg #[.slice A0_0 l0_0.length c0_0]] w fun e w' => ∃ v0_ : Value, e = .returned (v0_) ∧ Kd.R (Kd.int .i64) 3 w' w.heap.size (fun _ => True) v0_ r ∧ Below w.heap.size w w' := by
  have hu25 := Try.underlying25
  have HR0_0 := Aside0.mk hr0_0
  have HC0_0 := Aside0.mk hc0_0
  clear hr0_0 hc0_0
  have HB := Aside0.mk (Below.refl w.heap.size w)
  have H : ((nat_Nat_Limbs.f l0_0).bind fun t996 => ((numeraryref02_Made.f k t996).bind fun t999 => (some t999))) = some r := h
  clear h
  replace H := Option.bind_eq_some_iff.mp H
  obtain ⟨t996, A20, H⟩ := H
  have A2 := Aside0.mk A20
  clear A20
  replace H := Option.bind_eq_some_iff.mp H
  obtain ⟨t999, A30, H⟩ := H
  have A3 := Aside0.mk A30
  clear A30
  obtain rfl := Option.some.inj H
  go_enter Try.func45, Try.ntmps45
  go_wp2_with (first | ((with_reducible refine gate_dst (N := 1) rfl ?_); refine box_event ?hg (N := 1) ?hd (cs := #[.slice A0_0 l0_0.length c0_0]) (t := 25) ?hr ?_; (case hd => rfl); (case hg => rfl); (case hr => first | (go_simp; done) | (go_simp; rfl)); intro gb995 hg w4 hbox hb; have BK995 := Aside0.mk (hbox); have GW995 := Aside0.mk ((by rw [hg]; exact (below_size (by repeat (first | (with_reducible first | exact HB.out | apply below_alloc | apply pw_below_drewN | apply below_drew1) | exact HB.out))) : w.heap.size ≤ gb995)); have GE995 := Aside0.mk ((by rw [hg]; exact (below_size (by repeat (first | (with_reducible first | exact HB.out | apply below_alloc | apply pw_below_drewN | apply below_drew1) | exact HB.out))) : w.heap.size ≤ gb995)); replace HB := Aside0.mk (below_step (by repeat (first | (with_reducible first | exact HB.out | apply below_alloc | apply pw_below_drewN | apply below_drew1) | exact HB.out)) hb); clear hb hbox hg; have hcz5_0 : w4.cell? ⟨gb995, 0, none⟩ = some (.slice A0_0 l0_0.length c0_0) := (blk_cell BK995.out 0).trans rfl; have hfz5_0 := blk_frozen BK995.out 0) | ((with_reducible refine gate_callee (f := 31) rfl ?_); refine goesL_ (some 4) rfl rfl Try.func31 (by kernel_rfl) rfl #[.agg #[.slice A0_0 l0_0.length c0_0]] rfl (by (try simp only [List.map_toArray, List.map_cons, List.map_nil]); first | done | rfl | (simp only [List.length_drop, List.length_take]; rfl)) ?_; (with_reducible refine (nat_Nat_Limbs.calls _ _ l0_0 t996 _ ?side1 ?side2 A2.out).mono ?_); (case side1 => repeat (first | exact (Kd.C_below HR0_0.out HB.out) | (with_reducible refine Kd.C_alloc ?_ _) | (with_reducible refine Kd.C_drewN ?_ _) | (with_reducible refine Kd.C_drew ?_))); (case side2 => exact HC0_0.out); rintro e w6 ⟨v997, rfl, ho0, hb⟩; refine ⟨_, rfl, ?_⟩; have HO998 := Aside0.mk (Kd.R_lower ho0 (below_size (by repeat (first | (with_reducible first | exact HB.out | apply below_alloc | apply pw_below_drewN | apply below_drew1 | refine below_set ?_ GE995.out) | exact HB.out)))); replace BK995 := Aside0.mk (blk_below (g := gb995) (o := .cells #[.slice A0_0 l0_0.length c0_0] 25 (0, 0)) (by (with_reducible repeat (first | refine blk_drewN ?_ _ | refine blk_drew ?_ | refine blk_alloc ?_ _)); exact BK995.out) hb); replace HB := Aside0.mk (below_step (by repeat (first | (with_reducible first | exact HB.out | apply below_alloc | apply pw_below_drewN | apply below_drew1 | refine below_set ?_ GE995.out) | exact HB.out)) hb); obtain ⟨Ao7, co7, eo7⟩ := Kd.R_slice HO998.out; subst eo7) | ((with_reducible refine gate_callee (f := 18) rfl ?_); refine goesL_ (some 5) rfl rfl Try.func18 (by kernel_rfl) rfl #[.slice Ao7 t996.length co7] rfl (by (try simp only [List.map_toArray, List.map_cons, List.map_nil]); first | done | rfl | (simp only [List.length_drop, List.length_take]; rfl)) ?_; (with_reducible refine (numeraryref02_Made.calls k _ _ t996 t999 _ ?side1 ?side2 A3.out).mono ?_); (case side1 => repeat (first | exact (Kd.R_reads' HO998.out).2.2 | (with_reducible refine Kd.C_alloc ?_ _) | (with_reducible refine Kd.C_drewN ?_ _) | (with_reducible refine Kd.C_drew ?_))); (case side2 => exact (Kd.R_reads' HO998.out).2.1); rintro e w8 ⟨v1000, rfl, ho0, hb⟩; refine ⟨_, rfl, ?_⟩; replace HO998 := Aside0.mk (Kd.R_below (by (with_reducible repeat (first | apply Kd.R_alloc | apply Kd.R_drewN | apply Kd.R_drew)); exact HO998.out) hb); have HO1001 := Aside0.mk (Kd.R_lower ho0 (below_size (by repeat (first | (with_reducible first | exact HB.out | apply below_alloc | apply pw_below_drewN | apply below_drew1 | refine below_set ?_ GE995.out) | exact HB.out)))); replace BK995 := Aside0.mk (blk_below (g := gb995) (o := .cells #[.slice A0_0 l0_0.length c0_0] 25 (0, 0)) (by (with_reducible repeat (first | refine blk_drewN ?_ _ | refine blk_drew ?_ | refine blk_alloc ?_ _)); exact BK995.out) hb); replace HB := Aside0.mk (below_step (by repeat (first | (with_reducible first | exact HB.out | apply below_alloc | apply pw_below_drewN | apply below_drew1 | refine below_set ?_ GE995.out) | exact HB.out)) hb)))
  go_ret
  exact ⟨_, rfl, by (with_reducible repeat (first | apply Kd.R_alloc | apply Kd.R_drewN | apply Kd.R_drew)); exact HO1001.out, by repeat (first | (with_reducible first | exact HB.out | apply below_alloc | apply pw_below_drewN | apply below_drew1 | refine below_set ?_ GE995.out) | exact HB.out)⟩

end Go.Proofs.Ytcepdndhkidehaa.PA
end
section
namespace Go.Proofs.Ytcepdndhkidehaa.PA
open Go.RowKit Go.Proofs.YtcepdndhkidehaaW.PrintWords Go.Proofs.YtcepdndhkidehaaW.PrintLast Go.Proofs.YtcepdndhkidehaaW.PrintMore
attribute [local go_sem] max2_int min2_int max_two min_two max_three min_three max_four min_four   -- for this text's walks alone
set_option linter.unusedVariables false
set_option linter.unusedSimpArgs false

/-! ### numerarylaw04_QuotDivides: function 12 -/
def numerarylaw04_QuotDivides.f (k : Nat) (l0 : List Int) (l1 : List Int) : Option (Bool) := (numerarylaw04_few.f l0 12).bind fun t1002 => ((numerarylaw04_few.f l1 8).bind fun t1005 => ((nat_Made.f k t1002).bind fun t1008 => ((nat_Made.f k t1005).bind fun t1011 => ((quot_Div.f k t1008 t1011).bind fun bt1014 => ((numeraryref02_Made.f k t1002).bind fun t1023 => ((numeraryref02_Made.f k t1005).bind fun t1026 => (if (t1026.length : Int) = 0 then ((numerarylaw04_wakes.f k).bind fun t1029 => (if t1029 = true then (if bt1014.2.2 = true then (some false) else ((nat_Nat_Bits.f bt1014.1).bind fun t1030 => ((nat_Nat_Bits.f bt1014.2.1).bind fun t1031 => (some ((wrap64 (t1030 + t1031)) == 0))))) else (some false))) else ((numeraryref02_Div.f k t1023 t1026).bind fun bt1032 => ((numerarylaw04_wakes.f k).bind fun t1038 => (if t1038 = true then (if bt1014.2.2 = true then ((numerarylaw04_of.f k bt1014.1).bind fun t1039 => ((numeraryref02_Cmp.f k t1039 bt1032.1).bind fun t1042 => (if t1042 = 0 then ((numerarylaw04_of.f k bt1014.2.1).bind fun t1043 => ((numeraryref02_Cmp.f k t1043 bt1032.2).bind fun t1046 => (some (t1046 == 0)))) else (some false)))) else (some false)) else (some false)))))))))))
theorem numerarylaw04_QuotDivides.mono : ∀ a0 a1 k, LeO (numerarylaw04_QuotDivides.f k a0 a1) (numerarylaw04_QuotDivides.f (k + 1) a0 a1) := by
  intro a0 a1 k
  unfold numerarylaw04_QuotDivides.f
  repeat' first
      | (with_reducible exact nat_Made.mono _ _)
      | (with_reducible exact numerarylaw04_of.mono _ _)
      | (with_reducible exact numerarylaw04_wakes.mono _)
      | (with_reducible exact numeraryref02_Cmp.mono _ _ _)
      | (with_reducible exact numeraryref02_Div.mono _ _ _)
      | (with_reducible exact numeraryref02_Made.mono _ _)
      | (with_reducible exact quot_Div.mono _ _ _)
      | (with_reducible exact LeO.refl _)
      | (with_reducible exact LeO.none _)
      | (with_reducible refine LeO.ite ?_ ?_)
      | (with_reducible refine LeO.bind ?_ (fun _ => ?_))
def numerarylaw04_QuotDivides.T5 : Bool × List (List Nat × List Nat) := (true, [([], []), ([0, 0], [0]), ([1], [1]), ([2, 1], [1, 2]), ([1, 3], [1, 3]), ([4, 1], [4]), ([5], [5]), ([6, 5, 5], [5, 6]), ([5], [5]), ([8, 7, 5], [5, 8]), ([7, 9, 5], [5, 7, 9]), ([10, 5], [5, 10]), ([5, 11], [5, 11]), ([12, 9, 0, 1, 2, 3, 4, 5, 6, 7, 8, 9, 10, 11, 12], [12])])
def numerarylaw04_QuotDivides.B5 : List Nat := [0, 1, 3, 7, 15, 31, 63, 127, 63, 511, 1023, 2047, 4095, 8191]
theorem numerarylaw04_QuotDivides.tab5 : rtab .any (opsOf Try.f12 5) = numerarylaw04_QuotDivides.T5 := by kernel_rfl
theorem numerarylaw04_QuotDivides.bits5 : waitsOk numerarylaw04_QuotDivides.T5.2 numerarylaw04_QuotDivides.B5 = true := by kernel_rfl
set_option maxHeartbeats 8000000 in
set_option maxRecDepth 100000 in
theorem numerarylaw04_QuotDivides.calls (k : Nat) (A0 : Option Addr) (c0 : Nat) (l0 : List Int) (A1 : Option Addr) (c1 : Nat) (l1 : List Int) (r : Bool) (w : World) (hr0 : Kd.C (Kd.int .u32) w A0 l0.length l0) (hc0 : l0.length ≤ c0) (hr1 : Kd.C (Kd.int .u32) w A1 l1.length l1) (hc1 : l1.length ≤ c1) (h : numerarylaw04_QuotDivides.f k l0 l1 = some r) (hr_ : r = true) :
    Calls Try.prog 12 #[.slice A0 l0.length c0, .slice A1 l1.length c1] w fun e w' => e = .returned (.bool r) ∧ Below w.heap.size w w' := by
  have HR_ := Aside0.mk hr_
  clear hr_
  have hu25 := Try.underlying25
  have HR0 := Aside0.mk hr0
  have HC0 := Aside0.mk hc0
  clear hr0 hc0
  have HR1 := Aside0.mk hr1
  have HC1 := Aside0.mk hc1
  clear hr1 hc1
  have HB := Aside0.mk (Below.refl w.heap.size w)
  have H : ((numerarylaw04_few.f l0 12).bind fun t1002 => ((numerarylaw04_few.f l1 8).bind fun t1005 => ((nat_Made.f k t1002).bind fun t1008 => ((nat_Made.f k t1005).bind fun t1011 => ((quot_Div.f k t1008 t1011).bind fun bt1014 => ((numeraryref02_Made.f k t1002).bind fun t1023 => ((numeraryref02_Made.f k t1005).bind fun t1026 => (if (t1026.length : Int) = 0 then ((numerarylaw04_wakes.f k).bind fun t1029 => (if t1029 = true then (if bt1014.2.2 = true then (some false) else ((nat_Nat_Bits.f bt1014.1).bind fun t1030 => ((nat_Nat_Bits.f bt1014.2.1).bind fun t1031 => (some ((wrap64 (t1030 + t1031)) == 0))))) else (some false))) else ((numeraryref02_Div.f k t1023 t1026).bind fun bt1032 => ((numerarylaw04_wakes.f k).bind fun t1038 => (if t1038 = true then (if bt1014.2.2 = true then ((numerarylaw04_of.f k bt1014.1).bind fun t1039 => ((numeraryref02_Cmp.f k t1039 bt1032.1).bind fun t1042 => (if t1042 = 0 then ((numerarylaw04_of.f k bt1014.2.1).bind fun t1043 => ((numeraryref02_Cmp.f k t1043 bt1032.2).bind fun t1046 => (some (t1046 == 0)))) else (some false)))) else (some false)) else (some false)))))))))))) = some r := h
  clear h
  replace H := Option.bind_eq_some_iff.mp H
  obtain ⟨t1002, A30, H⟩ := H
  have A3 := Aside0.mk A30
  clear A30
  replace H := Option.bind_eq_some_iff.mp H
  obtain ⟨t1005, A40, H⟩ := H
  have A4 := Aside0.mk A40
  clear A40
  replace H := Option.bind_eq_some_iff.mp H
  obtain ⟨t1008, A50, H⟩ := H
  have A5 := Aside0.mk A50
  clear A50
  replace H := Option.bind_eq_some_iff.mp H
  obtain ⟨t1011, A60, H⟩ := H
  have A6 := Aside0.mk A60
  clear A60
  replace H := Option.bind_eq_some_iff.mp H
  obtain ⟨⟨t1014, t1017, t1020⟩, A70, H⟩ := H
  have A7 := Aside0.mk A70
  clear A70
  replace H := Option.bind_eq_some_iff.mp H
  obtain ⟨t1023, A80, H⟩ := H
  have A8 := Aside0.mk A80
  clear A80
  replace H := Option.bind_eq_some_iff.mp H
  obtain ⟨t1026, A90, H⟩ := H
  have A9 := Aside0.mk A90
  clear A90
  by_cases c10 : (t1026.length : Int) = 0
  · rw [if_pos c10] at H
    have c10b0 : ((t1026.length : Int) == 0) = true := beq_iff_eq.mpr c10
    have c10b1 : ((t1026.length : Int) != 0) = false := bne_eq_false_iff_eq.mpr c10
    clear c10
    replace H := Option.bind_eq_some_iff.mp H
    obtain ⟨t1029, A110, H⟩ := H
    have A11 := Aside0.mk A110
    clear A110
    by_cases c12 : t1029 = true
    rotate_left
    · replace c12 := Bool.eq_false_iff.mpr c12
      subst c12
      have H1 : (some false) = some r := by rw [if_neg (show ¬ (false = true) by decide)] at H; exact H
      clear H
      have H := H1
      clear H1
      exact absurd (H.trans (congrArg some HR_.out)) (by simp)
    subst c12
    have H1 : (if t1020 = true then (some false) else ((nat_Nat_Bits.f t1014).bind fun t1030 => ((nat_Nat_Bits.f t1017).bind fun t1031 => (some ((wrap64 (t1030 + t1031)) == 0))))) = some r := by rw [if_pos rfl] at H; exact H
    clear H
    have H := H1
    clear H1
    by_cases c13 : t1020 = true
    · subst c13
      have H1 : (some false) = some r := by rw [if_pos rfl] at H; exact H
      clear H
      have H := H1
      clear H1
      exact absurd (H.trans (congrArg some HR_.out)) (by simp)
    replace c13 := Bool.eq_false_iff.mpr c13
    subst c13
    have H1 : ((nat_Nat_Bits.f t1014).bind fun t1030 => ((nat_Nat_Bits.f t1017).bind fun t1031 => (some ((wrap64 (t1030 + t1031)) == 0)))) = some r := by rw [if_neg (show ¬ (false = true) by decide)] at H; exact H
    clear H
    have H := H1
    clear H1
    replace H := Option.bind_eq_some_iff.mp H
    obtain ⟨t1030, A140, H⟩ := H
    have A14 := Aside0.mk A140
    clear A140
    replace H := Option.bind_eq_some_iff.mp H
    obtain ⟨t1031, A150, H⟩ := H
    have A15 := Aside0.mk A150
    clear A150
    obtain rfl := Option.some.inj H
    go_enter Try.func12, Try.ntmps12
    try go_wp2_with (first | ((with_reducible refine gate_callee (f := 41) rfl ?_); refine goesL_ (some 13) rfl rfl Try.func41 (by kernel_rfl) rfl #[.slice A0 l0.length c0, .int .i64 12] rfl (by (try simp only [List.map_toArray, List.map_cons, List.map_nil]); first | done | rfl | (simp only [List.length_drop, List.length_take]; rfl)) ?_; (with_reducible refine (numerarylaw04_few.calls (fun k_ => k_ < w.heap.size) _ _ l0 12 t1002 _ ?side1 A3.out).mono ?_); (case side1 => exact Kd.V_mk HC0.out (Kd.F_below (Kd.C_F (Kd.heap_int .u32) HR0.out) (by repeat (first | (with_reducible first | exact HB.out | apply below_alloc | apply pw_below_drewN | apply below_drew1) | exact HB.out)))); rintro e w16 ⟨v1003, rfl, ho0, hb⟩; refine ⟨_, rfl, ?_⟩; have HO1004 := Aside0.mk (Kd.V_lower (Kd.V_mono (ok' := fun k_ => True) ho0 (fun k_ hk_ => trivial)) (below_size (by repeat (first | (with_reducible first | exact HB.out | apply below_alloc | apply pw_below_drewN | apply below_drew1) | exact HB.out)))); replace HB := Aside0.mk (below_step (by repeat (first | (with_reducible first | exact HB.out | apply below_alloc | apply pw_below_drewN | apply below_drew1) | exact HB.out)) hb)) | ((with_reducible refine gate_callee (f := 41) rfl ?_); refine goesL_ (some 15) rfl rfl Try.func41 (by kernel_rfl) rfl #[.slice A1 l1.length c1, .int .i64 8] rfl (by (try simp only [List.map_toArray, List.map_cons, List.map_nil]); first | done | rfl | (simp only [List.length_drop, List.length_take]; rfl)) ?_; (with_reducible refine (numerarylaw04_few.calls (fun k_ => k_ < w.heap.size) _ _ l1 8 t1005 _ ?side1 A4.out).mono ?_); (case side1 => exact Kd.V_mk HC1.out (Kd.F_below (Kd.C_F (Kd.heap_int .u32) HR1.out) (by repeat (first | (with_reducible first | exact HB.out | apply below_alloc | apply pw_below_drewN | apply below_drew1) | exact HB.out)))); rintro e w17 ⟨v1006, rfl, ho0, hb⟩; refine ⟨_, rfl, ?_⟩; replace HO1004 := Aside0.mk (Kd.V_below (by (with_reducible repeat (first | apply Kd.V_alloc | apply Kd.V_drewN | apply Kd.V_drew)); exact HO1004.out) hb); have HO1007 := Aside0.mk (Kd.V_lower (Kd.V_mono (ok' := fun k_ => True) ho0 (fun k_ hk_ => trivial)) (below_size (by repeat (first | (with_reducible first | exact HB.out | apply below_alloc | apply pw_below_drewN | apply below_drew1) | exact HB.out)))); replace HB := Aside0.mk (below_step (by repeat (first | (with_reducible first | exact HB.out | apply below_alloc | apply pw_below_drewN | apply below_drew1) | exact HB.out)) hb); obtain ⟨Ao18, co18, eo18⟩ := Kd.V_slice HO1004.out; subst eo18) | ((with_reducible refine gate_callee (f := 16) rfl ?_); refine goesL_ (some 18) rfl rfl Try.func16 (by kernel_rfl) rfl #[.slice Ao18 t1002.length co18] rfl (by (try simp only [List.map_toArray, List.map_cons, List.map_nil]); first | done | rfl | (simp only [List.length_drop, List.length_take]; rfl)) ?_; (with_reducible refine (nat_Made.calls k _ _ t1002 t1008 _ ?side1 ?side2 A5.out).mono ?_); (case side1 => exact (Kd.V_reads' HO1004.out).2.2); (case side2 => exact (Kd.V_reads' HO1004.out).2.1); rintro e w19 ⟨v1009, rfl, ho0, hb⟩; refine ⟨_, rfl, ?_⟩; replace HO1004 := Aside0.mk (Kd.V_elder' (by (with_reducible repeat (first | apply Kd.V_alloc | apply Kd.V_drewN | apply Kd.V_drew)); exact HO1004.out) (Kd.R_base ho0) hb); replace HO1007 := Aside0.mk (Kd.V_elder' (by (with_reducible repeat (first | apply Kd.V_alloc | apply Kd.V_drewN | apply Kd.V_drew)); exact HO1007.out) (Kd.R_base ho0) hb); have HO1010 := Aside0.mk (Kd.R_lower ho0 (below_size (by repeat (first | (with_reducible first | exact HB.out | apply below_alloc | apply pw_below_drewN | apply below_drew1) | exact HB.out)))); replace HB := Aside0.mk (below_step (by repeat (first | (with_reducible first | exact HB.out | apply below_alloc | apply pw_below_drewN | apply below_drew1) | exact HB.out)) hb); obtain ⟨Ao20, co20, eo20⟩ := Kd.V_slice HO1007.out; subst eo20) | ((with_reducible refine gate_callee (f := 16) rfl ?_); refine goesL_ (some 20) rfl rfl Try.func16 (by kernel_rfl) rfl #[.slice Ao20 t1005.length co20] rfl (by (try simp only [List.map_toArray, List.map_cons, List.map_nil]); first | done | rfl | (simp only [List.length_drop, List.length_take]; rfl)) ?_; (with_reducible refine (nat_Made.calls k _ _ t1005 t1011 _ ?side1 ?side2 A6.out).mono ?_); (case side1 => exact (Kd.V_reads' HO1007.out).2.2); (case side2 => exact (Kd.V_reads' HO1007.out).2.1); rintro e w21 ⟨v1012, rfl, ho0, hb⟩; refine ⟨_, rfl, ?_⟩; replace HO1004 := Aside0.mk (Kd.V_elder' (by (with_reducible repeat (first | apply Kd.V_alloc | apply Kd.V_drewN | apply Kd.V_drew)); exact HO1004.out) (Kd.R_base ho0) hb); replace HO1007 := Aside0.mk (Kd.V_elder' (by (with_reducible repeat (first | apply Kd.V_alloc | apply Kd.V_drewN | apply Kd.V_drew)); exact HO1007.out) (Kd.R_base ho0) hb); have HO1013 := Aside0.mk (Kd.R_lower (Kd.R_new' ho0 (Kd.R_lt (by (with_reducible repeat (first | apply Kd.R_alloc | apply Kd.R_drewN | apply Kd.R_drew)); exact HO1010.out))) (below_size (by repeat (first | (with_reducible first | exact HB.out | apply below_alloc | apply pw_below_drewN | apply below_drew1) | exact HB.out)))); replace HO1010 := Aside0.mk (Kd.R_elder' (by (with_reducible repeat (first | apply Kd.R_alloc | apply Kd.R_drewN | apply Kd.R_drew)); exact HO1010.out) (Kd.R_base ho0) hb); replace HB := Aside0.mk (below_step (by repeat (first | (with_reducible first | exact HB.out | apply below_alloc | apply pw_below_drewN | apply below_drew1) | exact HB.out)) hb); obtain ⟨Ao22, co22, eo22⟩ := Kd.R_slice HO1010.out; subst eo22; obtain ⟨Ao23, co23, eo23⟩ := Kd.R_slice HO1013.out; subst eo23) | ((with_reducible refine gate_callee (f := 42) rfl ?_); refine goesL_ (some 21) rfl rfl Try.func42 (by kernel_rfl) rfl #[.agg #[.slice Ao22 t1008.length co22], .agg #[.slice Ao23 t1011.length co23]] rfl (by (try simp only [List.map_toArray, List.map_cons, List.map_nil]); first | done | rfl | (simp only [List.length_drop, List.length_take]; rfl)) ?_; (with_reducible refine (quot_Div.calls k (fun k_ => some k_ = (.slice Ao22 t1008.length co22 : Value).ownBlock) (.slice Ao22 t1008.length co22) t1008 _ _ t1011 t1014 t1017 false w _ ?side1 ?side2 ?side3 ?side4 A7.out).mono ?_); (case side1 => repeat (first | (with_reducible first | exact HB.out | apply below_alloc | apply pw_below_drewN | apply below_drew1) | exact HB.out)); (case side2 => exact Kd.R_tight rfl HO1010.out); (case side3 => exact Kd.C_kept_own (HO1013.out) (fun k_ hk_ hs_ => (hk_.2) hs_)); (case side4 => exact (Kd.R_reads' HO1013.out).2.1); rintro e w24 ⟨v1015, v1018, rfl, ho0, ho1, hb, hkp⟩; refine ⟨_, rfl, ?_⟩; have n0_ := Aside0.mk (Kd.V_mono (ok' := fun k_ => some k_ ≠ (.slice Ao23 t1011.length co23 : Value).ownBlock ∧ some k_ ≠ (v1015 : Value).ownBlock ∧ some k_ ≠ (v1018 : Value).ownBlock) (Kd.V_keptB (HO1004.out) hkp (fun k_ hk_ hs_ => (hk_.1.2) hs_)) (fun k_ hk_ => ⟨hk_.1.2, fun e_ => Or.elim (ho0.1 k_ e_.symm).1 (fun hs_ => hk_.2.1 hs_) (fun hn_ => Nat.not_le.2 hk_.2.2 hn_), fun e_ => Or.elim (ho1.1 k_ e_.symm).1 (fun hs_ => hk_.2.1 hs_) (fun hn_ => Nat.not_le.2 hk_.2.2 hn_)⟩)); have n1_ := Aside0.mk (Kd.V_mono (ok' := fun k_ => some k_ ≠ (.slice Ao23 t1011.length co23 : Value).ownBlock ∧ some k_ ≠ (v1015 : Value).ownBlock ∧ some k_ ≠ (v1018 : Value).ownBlock) (Kd.V_keptB (HO1007.out) hkp (fun k_ hk_ hs_ => (hk_.1.2) hs_)) (fun k_ hk_ => ⟨hk_.1.2, fun e_ => Or.elim (ho0.1 k_ e_.symm).1 (fun hs_ => hk_.2.1 hs_) (fun hn_ => Nat.not_le.2 hk_.2.2 hn_), fun e_ => Or.elim (ho1.1 k_ e_.symm).1 (fun hs_ => hk_.2.1 hs_) (fun hn_ => Nat.not_le.2 hk_.2.2 hn_)⟩)); have n2_ := Aside0.mk (Kd.R_mono (ok' := fun k_ => some k_ ≠ (v1015 : Value).ownBlock ∧ some k_ ≠ (v1018 : Value).ownBlock) (Kd.R_keptB (HO1013.out) hkp (fun k_ hk_ hs_ => (hk_.2) hs_)) (fun k_ hk_ => ⟨fun e_ => Or.elim (ho0.1 k_ e_.symm).1 (fun hs_ => hk_.2.1 hs_) (fun hn_ => Nat.not_le.2 hk_.2.2 hn_), fun e_ => Or.elim (ho1.1 k_ e_.symm).1 (fun hs_ => hk_.2.1 hs_) (fun hn_ => Nat.not_le.2 hk_.2.2 hn_)⟩)); have n3_ := Aside0.mk (Kd.R_mono (ok' := fun k_ => some k_ ≠ (v1018 : Value).ownBlock ∧ some k_ ≠ (.slice Ao23 t1011.length co23 : Value).ownBlock) ho0 (fun k_ hk_ => ⟨hk_.2, Or.elim hk_.1 (fun hs_ => fun e_ => (((HO1013.out).1 k_ e_.symm).2) hs_) (fun hn_ => (Kd.fresh' (Kd.R_lt (by (with_reducible repeat (first | apply Kd.R_alloc | apply Kd.R_drewN | apply Kd.R_drew)); exact HO1013.out)) k_ hn_))⟩)); have n4_ := Aside0.mk (Kd.R_mono (ok' := fun k_ => some k_ ≠ (v1015 : Value).ownBlock ∧ some k_ ≠ (.slice Ao23 t1011.length co23 : Value).ownBlock) ho1 (fun k_ hk_ => ⟨hk_.2, Or.elim hk_.1 (fun hs_ => fun e_ => (((HO1013.out).1 k_ e_.symm).2) hs_) (fun hn_ => (Kd.fresh' (Kd.R_lt (by (with_reducible repeat (first | apply Kd.R_alloc | apply Kd.R_drewN | apply Kd.R_drew)); exact HO1013.out)) k_ hn_))⟩)); have n5_ := Aside0.mk (hb); clear HO1004; clear HO1007; clear HO1013; clear HB; clear HO1010; have HO1004 := n0_; have HO1007 := n1_; have HO1013 := n2_; have HO1016 := n3_; have HO1019 := n4_; have HB := n5_; clear n0_ n1_ n2_ n3_ n4_ n5_; (try clear ho1)) | ((with_reducible refine gate_dst (N := 5) rfl ?_); refine box_event ?hg (N := 5) ?hd (cs := #[.slice none 0 0]) (t := 25) ?hr ?_; (case hd => rfl); (case hg => rfl); (case hr => first | (go_simp; done) | (go_simp; rfl)); intro gb1021 hg w25 hbox hb; replace HO1004 := Aside0.mk (Kd.V_below (Kd.V_elderB (by (with_reducible repeat (first | apply Kd.V_alloc | apply Kd.V_drewN | apply Kd.V_drew)); exact HO1004.out) gb1021 (Nat.le_of_eq hg.symm)) hb); replace HO1007 := Aside0.mk (Kd.V_below (Kd.V_elderB (by (with_reducible repeat (first | apply Kd.V_alloc | apply Kd.V_drewN | apply Kd.V_drew)); exact HO1007.out) gb1021 (Nat.le_of_eq hg.symm)) hb); replace HO1013 := Aside0.mk (Kd.R_below (by (with_reducible repeat (first | apply Kd.R_alloc | apply Kd.R_drewN | apply Kd.R_drew)); exact HO1013.out) hb); replace HO1016 := Aside0.mk (Kd.R_below (by (with_reducible repeat (first | apply Kd.R_alloc | apply Kd.R_drewN | apply Kd.R_drew)); exact HO1016.out) hb); replace HO1019 := Aside0.mk (Kd.R_below (by (with_reducible repeat (first | apply Kd.R_alloc | apply Kd.R_drewN | apply Kd.R_drew)); exact HO1019.out) hb); have BK1021 := Aside0.mk (hbox); have GW1021 := Aside0.mk ((by rw [hg]; exact (below_size (by repeat (first | (with_reducible first | exact HB.out | apply below_alloc | apply pw_below_drewN | apply below_drew1) | exact HB.out))) : w.heap.size ≤ gb1021)); have GE1021 := Aside0.mk ((by rw [hg]; exact (below_size (by repeat (first | (with_reducible first | exact HB.out | apply below_alloc | apply pw_below_drewN | apply below_drew1) | exact HB.out))) : w.heap.size ≤ gb1021)); replace HB := Aside0.mk (below_step (by repeat (first | (with_reducible first | exact HB.out | apply below_alloc | apply pw_below_drewN | apply below_drew1) | exact HB.out)) hb); clear hb hbox hg) | ((with_reducible refine gate_dst (N := 6) rfl ?_); refine box_event ?hg (N := 6) ?hd (cs := #[.slice none 0 0]) (t := 25) ?hr ?_; (case hd => rfl); (case hg => rfl); (case hr => first | (go_simp; done) | (go_simp; rfl)); intro gb1022 hg w26 hbox hb; replace HO1004 := Aside0.mk (Kd.V_below (Kd.V_elderB (by (with_reducible repeat (first | apply Kd.V_alloc | apply Kd.V_drewN | apply Kd.V_drew)); exact HO1004.out) gb1022 (Nat.le_of_eq hg.symm)) hb); replace HO1007 := Aside0.mk (Kd.V_below (Kd.V_elderB (by (with_reducible repeat (first | apply Kd.V_alloc | apply Kd.V_drewN | apply Kd.V_drew)); exact HO1007.out) gb1022 (Nat.le_of_eq hg.symm)) hb); replace HO1013 := Aside0.mk (Kd.R_below (by (with_reducible repeat (first | apply Kd.R_alloc | apply Kd.R_drewN | apply Kd.R_drew)); exact HO1013.out) hb); replace HO1016 := Aside0.mk (Kd.R_below (by (with_reducible repeat (first | apply Kd.R_alloc | apply Kd.R_drewN | apply Kd.R_drew)); exact HO1016.out) hb); replace HO1019 := Aside0.mk (Kd.R_below (by (with_reducible repeat (first | apply Kd.R_alloc | apply Kd.R_drewN | apply Kd.R_drew)); exact HO1019.out) hb); have BK1022 := Aside0.mk (hbox); have GW1022 := Aside0.mk ((by rw [hg]; exact (below_size (by repeat (first | (with_reducible first | exact HB.out | apply below_alloc | apply pw_below_drewN | apply below_drew1 | refine below_set ?_ GE1021.out) | exact HB.out))) : w.heap.size ≤ gb1022)); have GE1022 := Aside0.mk ((by rw [hg]; exact (below_size (by repeat (first | (with_reducible first | exact HB.out | apply below_alloc | apply pw_below_drewN | apply below_drew1 | refine below_set ?_ GE1021.out) | exact HB.out))) : w.heap.size ≤ gb1022)); replace HB := Aside0.mk (below_step (by repeat (first | (with_reducible first | exact HB.out | apply below_alloc | apply pw_below_drewN | apply below_drew1 | refine below_set ?_ GE1021.out) | exact HB.out)) hb); have NB1021_1022 := Aside0.mk ((by rw [hg]; exact Nat.ne_of_lt (blk_lt (g := gb1021) (o := .cells #[.slice none 0 0] 25 (0, 0)) (by (with_reducible repeat (first | refine blk_drewN ?_ _ | refine blk_drew ?_ | refine blk_alloc ?_ _)); exact BK1021.out)) : gb1021 ≠ gb1022)); have NB1022_1021 := Aside0.mk ((by rw [hg]; exact Nat.ne_of_gt (blk_lt (g := gb1021) (o := .cells #[.slice none 0 0] 25 (0, 0)) (by (with_reducible repeat (first | refine blk_drewN ?_ _ | refine blk_drew ?_ | refine blk_alloc ?_ _)); exact BK1021.out)) : gb1022 ≠ gb1021)); replace BK1021 := Aside0.mk (blk_below (g := gb1021) (o := .cells #[.slice none 0 0] 25 (0, 0)) (by (with_reducible repeat (first | refine blk_drewN ?_ _ | refine blk_drew ?_ | refine blk_alloc ?_ _)); exact BK1021.out) hb); clear hb hbox hg; obtain ⟨Ao27, co27, eo27⟩ := Kd.R_slice HO1016.out; subst eo27; have hnb28 := NB1021_1022.out; have hnc28 := NB1022_1021.out; have hcz29_0 : w26.cell? ⟨gb1021, 0, none⟩ = some (.slice none 0 0) := (blk_cell BK1021.out 0).trans rfl; have hfz29_0 := blk_frozen BK1021.out 0; obtain ⟨Ao30, co30, eo30⟩ := Kd.R_slice HO1019.out; subst eo30; have hcz31_0 : w26.cell? ⟨gb1022, 0, none⟩ = some (.slice none 0 0) := (blk_cell BK1022.out 0).trans rfl; have hfz31_0 := blk_frozen BK1022.out 0) | ((with_reducible refine gate_callee (f := 18) rfl ?_); refine goesL_ (some 26) rfl rfl Try.func18 (by kernel_rfl) rfl #[.slice Ao18 t1002.length co18] rfl (by (try simp only [List.map_toArray, List.map_cons, List.map_nil]); first | done | rfl | (simp only [List.length_drop, List.length_take]; rfl)) ?_; (with_reducible refine (numeraryref02_Made.calls k _ _ t1002 t1023 _ ?side1 ?side2 A8.out).mono ?_); (case side1 => exact (Kd.V_reads' (e := 23) (base := w.heap.size) (n := t1002.length) (c := co18) (by (with_reducible repeat (first | apply Kd.V_alloc | apply Kd.V_drewN | apply Kd.V_drew)); exact (Kd.V_mono (Kd.V_mono (Kd.V_far (p := ⟨gb1022, 0, none⟩) (Kd.V_far (p := ⟨gb1021, 0, none⟩) (Kd.V_mono (Kd.V_mono HO1004.out (fun k_ hk => (⟨hk, hk.1.2⟩ : _ ∧ k_ ≠ gb1021))) (fun k_ hk => (⟨hk, hk.1.2⟩ : _ ∧ k_ ≠ gb1022))) (fun _ hk => hk.1.2) (.slice Ao27 t1014.length co27)) (fun _ hk => hk.2) (.slice Ao30 t1017.length co30)) (fun _ h_ => h_.1)) (fun _ h_ => h_.1)))).2.2); (case side2 => exact (Kd.V_reads' HO1004.out).2.1); rintro e w32 ⟨v1024, rfl, ho0, hb⟩; refine ⟨_, rfl, ?_⟩; replace HO1004 := Aside0.mk (Kd.V_elder' (by (with_reducible repeat (first | apply Kd.V_alloc | apply Kd.V_drewN | apply Kd.V_drew)); exact (Kd.V_mono (Kd.V_mono (Kd.V_far (p := ⟨gb1022, 0, none⟩) (Kd.V_far (p := ⟨gb1021, 0, none⟩) (Kd.V_mono (Kd.V_mono HO1004.out (fun k_ hk => (⟨hk, hk.1.2⟩ : _ ∧ k_ ≠ gb1021))) (fun k_ hk => (⟨hk, hk.1.2⟩ : _ ∧ k_ ≠ gb1022))) (fun _ hk => hk.1.2) (.slice Ao27 t1014.length co27)) (fun _ hk => hk.2) (.slice Ao30 t1017.length co30)) (fun _ h_ => h_.1)) (fun _ h_ => h_.1))) (Kd.R_base ho0) hb); replace HO1007 := Aside0.mk (Kd.V_elder' (by (with_reducible repeat (first | apply Kd.V_alloc | apply Kd.V_drewN | apply Kd.V_drew)); exact (Kd.V_mono (Kd.V_mono (Kd.V_far (p := ⟨gb1022, 0, none⟩) (Kd.V_far (p := ⟨gb1021, 0, none⟩) (Kd.V_mono (Kd.V_mono HO1007.out (fun k_ hk => (⟨hk, hk.1.2⟩ : _ ∧ k_ ≠ gb1021))) (fun k_ hk => (⟨hk, hk.1.2⟩ : _ ∧ k_ ≠ gb1022))) (fun _ hk => hk.1.2) (.slice Ao27 t1014.length co27)) (fun _ hk => hk.2) (.slice Ao30 t1017.length co30)) (fun _ h_ => h_.1)) (fun _ h_ => h_.1))) (Kd.R_base ho0) hb); replace HO1013 := Aside0.mk (Kd.R_below (by (with_reducible repeat (first | apply Kd.R_alloc | apply Kd.R_drewN | apply Kd.R_drew)); exact (Kd.R_mono (Kd.R_mono (Kd.R_far (p := ⟨gb1022, 0, none⟩) (Kd.R_far (p := ⟨gb1021, 0, none⟩) (Kd.R_types (Kd.R_types HO1013.out BK1021.out (by decide)) BK1022.out (by decide)) (fun _ hk => hk.1.2) (.slice Ao27 t1014.length co27)) (fun _ hk => hk.2) (.slice Ao30 t1017.length co30)) (fun _ h_ => h_.1)) (fun _ h_ => h_.1))) hb); replace HO1016 := Aside0.mk (Kd.R_below (by (with_reducible repeat (first | apply Kd.R_alloc | apply Kd.R_drewN | apply Kd.R_drew)); exact (Kd.R_mono (Kd.R_mono (Kd.R_far (p := ⟨gb1022, 0, none⟩) (Kd.R_far (p := ⟨gb1021, 0, none⟩) (Kd.R_types (Kd.R_types HO1016.out BK1021.out (by decide)) BK1022.out (by decide)) (fun _ hk => hk.1.2) (.slice Ao27 t1014.length co27)) (fun _ hk => hk.2) (.slice Ao30 t1017.length co30)) (fun _ h_ => h_.1)) (fun _ h_ => h_.1))) hb); replace HO1019 := Aside0.mk (Kd.R_below (by (with_reducible repeat (first | apply Kd.R_alloc | apply Kd.R_drewN | apply Kd.R_drew)); exact (Kd.R_mono (Kd.R_mono (Kd.R_far (p := ⟨gb1022, 0, none⟩) (Kd.R_far (p := ⟨gb1021, 0, none⟩) (Kd.R_types (Kd.R_types HO1019.out BK1021.out (by decide)) BK1022.out (by decide)) (fun _ hk => hk.1.2) (.slice Ao27 t1014.length co27)) (fun _ hk => hk.2) (.slice Ao30 t1017.length co30)) (fun _ h_ => h_.1)) (fun _ h_ => h_.1))) hb); have HO1025 := Aside0.mk (Kd.R_lower ho0 (below_size (by repeat (first | (with_reducible first | exact HB.out | apply below_alloc | apply pw_below_drewN | apply below_drew1 | refine below_set ?_ GE1021.out | refine below_set ?_ GE1022.out) | exact HB.out)))); replace BK1021 := Aside0.mk (blk_below (g := gb1021) (o := .cells #[.slice Ao27 t1014.length co27] 25 (0, 0)) (by (with_reducible repeat (first | refine blk_drewN ?_ _ | refine blk_drew ?_ | refine blk_alloc ?_ _)); refine blk_far ?_ NB1021_1022.out _; (with_reducible repeat (first | refine blk_drewN ?_ _ | refine blk_drew ?_ | refine blk_alloc ?_ _)); refine blk_put (cs := #[.slice none 0 0]) ?_ 0 _ rfl; (with_reducible repeat (first | refine blk_drewN ?_ _ | refine blk_drew ?_ | refine blk_alloc ?_ _)); exact BK1021.out) hb); replace BK1022 := Aside0.mk (blk_below (g := gb1022) (o := .cells #[.slice Ao30 t1017.length co30] 25 (0, 0)) (by (with_reducible repeat (first | refine blk_drewN ?_ _ | refine blk_drew ?_ | refine blk_alloc ?_ _)); refine blk_put (cs := #[.slice none 0 0]) ?_ 0 _ rfl; (with_reducible repeat (first | refine blk_drewN ?_ _ | refine blk_drew ?_ | refine blk_alloc ?_ _)); refine blk_far ?_ NB1022_1021.out _; (with_reducible repeat (first | refine blk_drewN ?_ _ | refine blk_drew ?_ | refine blk_alloc ?_ _)); exact BK1022.out) hb); replace HB := Aside0.mk (below_step (by repeat (first | (with_reducible first | exact HB.out | apply below_alloc | apply pw_below_drewN | apply below_drew1 | refine below_set ?_ GE1021.out | refine below_set ?_ GE1022.out) | exact HB.out)) hb)) | ((with_reducible refine gate_callee (f := 18) rfl ?_); refine goesL_ (some 28) rfl rfl Try.func18 (by kernel_rfl) rfl #[.slice Ao20 t1005.length co20] rfl (by (try simp only [List.map_toArray, List.map_cons, List.map_nil]); first | done | rfl | (simp only [List.length_drop, List.length_take]; rfl)) ?_; (with_reducible refine (numeraryref02_Made.calls k _ _ t1005 t1026 _ ?side1 ?side2 A9.out).mono ?_); (case side1 => exact (Kd.V_reads' HO1007.out).2.2); (case side2 => exact (Kd.V_reads' HO1007.out).2.1); rintro e w33 ⟨v1027, rfl, ho0, hb⟩; refine ⟨_, rfl, ?_⟩; replace HO1004 := Aside0.mk (Kd.V_elder' (by (with_reducible repeat (first | apply Kd.V_alloc | apply Kd.V_drewN | apply Kd.V_drew)); exact HO1004.out) (Kd.R_base ho0) hb); replace HO1007 := Aside0.mk (Kd.V_elder' (by (with_reducible repeat (first | apply Kd.V_alloc | apply Kd.V_drewN | apply Kd.V_drew)); exact HO1007.out) (Kd.R_base ho0) hb); replace HO1013 := Aside0.mk (Kd.R_below (by (with_reducible repeat (first | apply Kd.R_alloc | apply Kd.R_drewN | apply Kd.R_drew)); exact HO1013.out) hb); replace HO1016 := Aside0.mk (Kd.R_below (by (with_reducible repeat (first | apply Kd.R_alloc | apply Kd.R_drewN | apply Kd.R_drew)); exact HO1016.out) hb); replace HO1019 := Aside0.mk (Kd.R_below (by (with_reducible repeat (first | apply Kd.R_alloc | apply Kd.R_drewN | apply Kd.R_drew)); exact HO1019.out) hb); have HO1028 := Aside0.mk (Kd.R_lower (Kd.R_new' ho0 (Kd.R_lt (by (with_reducible repeat (first | apply Kd.R_alloc | apply Kd.R_drewN | apply Kd.R_drew)); exact HO1025.out))) (below_size (by repeat (first | (with_reducible first | exact HB.out | apply below_alloc | apply pw_below_drewN | apply below_drew1 | refine below_set ?_ GE1021.out | refine below_set ?_ GE1022.out) | exact HB.out)))); replace HO1025 := Aside0.mk (Kd.R_elder' (by (with_reducible repeat (first | apply Kd.R_alloc | apply Kd.R_drewN | apply Kd.R_drew)); exact HO1025.out) (Kd.R_base ho0) hb); replace BK1021 := Aside0.mk (blk_below (g := gb1021) (o := .cells #[.slice Ao27 t1014.length co27] 25 (0, 0)) (by (with_reducible repeat (first | refine blk_drewN ?_ _ | refine blk_drew ?_ | refine blk_alloc ?_ _)); exact BK1021.out) hb); replace BK1022 := Aside0.mk (blk_below (g := gb1022) (o := .cells #[.slice Ao30 t1017.length co30] 25 (0, 0)) (by (with_reducible repeat (first | refine blk_drewN ?_ _ | refine blk_drew ?_ | refine blk_alloc ?_ _)); exact BK1022.out) hb); replace HB := Aside0.mk (below_step (by repeat (first | (with_reducible first | exact HB.out | apply below_alloc | apply pw_below_drewN | apply below_drew1 | refine below_set ?_ GE1021.out | refine below_set ?_ GE1022.out) | exact HB.out)) hb); obtain ⟨Ao34, co34, eo34⟩ := Kd.R_slice HO1028.out; subst eo34))
    replace HO1004 := Aside0.mk (Kd.V_drew HO1004.out)
    replace HO1007 := Aside0.mk (Kd.V_drew HO1007.out)
    replace HO1013 := Aside0.mk (Kd.R_drew HO1013.out)
    replace HO1016 := Aside0.mk (Kd.R_drew HO1016.out)
    replace HO1019 := Aside0.mk (Kd.R_drew HO1019.out)
    replace HO1025 := Aside0.mk (Kd.R_drew HO1025.out)
    replace HO1028 := Aside0.mk (Kd.R_drew HO1028.out)
    replace BK1021 := Aside0.mk (blk_drew BK1021.out)
    replace BK1022 := Aside0.mk (blk_drew BK1022.out)
    replace HB := Aside0.mk (below_drew1 HB.out)
    refine start_ (n := 14) (S := fun w' => w'.cell? ⟨gb1021, 0, none⟩ = some (.slice Ao27 t1014.length co27) ∧ w'.cell? ⟨gb1022, 0, none⟩ = some (.slice Ao30 t1017.length co30)) (ds := []) #[false, false, false, false, false, false, false, false, false, false, false, false, false, false] (by kernel_rfl) rfl rfl ⟨(blk_cell BK1021.out 0).trans rfl, (blk_cell BK1022.out 0).trans rfl⟩ (fun hHeld => ?_); refine with_tabW numerarylaw04_QuotDivides.tab5 numerarylaw04_QuotDivides.bits5 (fun HT_ HW_ => ?_)
    generalize w33.drew = w35 at HO1004 HO1007 HO1013 HO1016 HO1019 HO1025 HO1028 BK1021 BK1022 HB hHeld ⊢
    refine one_ (i := 0) (N := some 32) #[true, false, false, false, false, false, false, false, false, false, false, false, false, false] rfl rfl (one_of HT_.out (by kernel_rfl)) (by decide) (fun K hK => ?_)
    refine goes_ Try.func43 (by kernel_rfl) rfl #[] (by rfl) rfl rfl (by (try simp only [List.map_toArray, List.map_cons, List.map_nil]); first | done | rfl | (simp only [List.length_drop, List.length_take]; rfl)) ?_
    with_reducible refine (numerarylaw04_wakes.calls k  true _ A11.out).mono ?_
    rintro e w36 ⟨rfl, hb⟩
    refine ⟨_, rfl, ?_⟩
    replace HO1004 := Aside0.mk (Kd.V_below (by (with_reducible repeat (first | apply Kd.V_alloc | apply Kd.V_drewN | apply Kd.V_drew)); exact HO1004.out) hb)
    replace HO1007 := Aside0.mk (Kd.V_below (by (with_reducible repeat (first | apply Kd.V_alloc | apply Kd.V_drewN | apply Kd.V_drew)); exact HO1007.out) hb)
    replace HO1013 := Aside0.mk (Kd.R_below (by (with_reducible repeat (first | apply Kd.R_alloc | apply Kd.R_drewN | apply Kd.R_drew)); exact HO1013.out) hb)
    replace HO1016 := Aside0.mk (Kd.R_below (by (with_reducible repeat (first | apply Kd.R_alloc | apply Kd.R_drewN | apply Kd.R_drew)); exact HO1016.out) hb)
    replace HO1019 := Aside0.mk (Kd.R_below (by (with_reducible repeat (first | apply Kd.R_alloc | apply Kd.R_drewN | apply Kd.R_drew)); exact HO1019.out) hb)
    replace HO1025 := Aside0.mk (Kd.R_below (by (with_reducible repeat (first | apply Kd.R_alloc | apply Kd.R_drewN | apply Kd.R_drew)); exact HO1025.out) hb)
    replace HO1028 := Aside0.mk (Kd.R_below (by (with_reducible repeat (first | apply Kd.R_alloc | apply Kd.R_drewN | apply Kd.R_drew)); exact HO1028.out) hb)
    replace BK1021 := Aside0.mk (blk_below (g := gb1021) (o := .cells #[.slice Ao27 t1014.length co27] 25 (0, 0)) (by (with_reducible repeat (first | refine blk_drewN ?_ _ | refine blk_drew ?_ | refine blk_alloc ?_ _)); exact BK1021.out) hb)
    replace BK1022 := Aside0.mk (blk_below (g := gb1022) (o := .cells #[.slice Ao30 t1017.length co30] 25 (0, 0)) (by (with_reducible repeat (first | refine blk_drewN ?_ _ | refine blk_drew ?_ | refine blk_alloc ?_ _)); exact BK1022.out) hb)
    replace HB := Aside0.mk (below_step (by repeat (first | (with_reducible first | exact HB.out | apply below_alloc | apply pw_below_drewN | apply below_drew1 | refine below_set ?_ GE1021.out | refine below_set ?_ GE1022.out) | exact HB.out)) hb)
    (try clear hb)
    (try clear hb2)
    (try clear hk)
    (try clear hi)
    refine hK.out _ _ ⟨(blk_cell BK1021.out 0).trans rfl, (blk_cell BK1022.out 0).trans rfl⟩ (fun hHeld => ?_)
    clear hK K
    refine norm_ (a' := ?_) ?_ ?_
    rotate_left
    · show Act.put _ (some 32) _ = _
      simp only [Act.put, List.setIfInBounds_toArray, List.set_cons_zero, List.set_cons_succ, i64_w, i32_w]
      rfl
    refine pure_ (i := 1) (N := some 33) (v := ?_) (a' := ?_) #[true, true, false, false, false, false, false, false, false, false, false, false, false, false] rfl rfl (any_of HT_.out (by kernel_rfl)) (fun _ _ _ h => h) (Or.inl ⟨by rfl, ?_⟩) ?_ ?_
    rotate_left
    · intro w'
      go_simp
      with_reducible rfl
    rotate_left
    · simp only [Act.put, List.setIfInBounds_toArray, List.set_cons_zero, List.set_cons_succ, i64_w, i32_w]
      rfl
    refine pure_ (i := 2) (N := some 34) (v := ?_) (a' := ?_) #[true, true, true, false, false, false, false, false, false, false, false, false, false, false] rfl rfl (any_of HT_.out (by kernel_rfl)) (fun _ _ _ h => h) (Or.inl ⟨by rfl, ?_⟩) ?_ ?_
    rotate_left
    · intro w'
      go_simp
      with_reducible rfl
    rotate_left
    · simp only [Act.put, List.setIfInBounds_toArray, List.set_cons_zero, List.set_cons_succ, i64_w, i32_w]
      rfl
    refine pure_ (i := 3) (N := some 35) (v := ?_) (a' := ?_) #[true, true, true, true, false, false, false, false, false, false, false, false, false, false] rfl rfl (any_of HT_.out (by kernel_rfl)) (fun _ _ _ h => h) (Or.inl ⟨by rfl, ?_⟩) ?_ ?_
    rotate_left
    · intro w'
      go_simp
      with_reducible rfl
    rotate_left
    · simp only [Act.put, List.setIfInBounds_toArray, List.set_cons_zero, List.set_cons_succ, i64_w, i32_w]
      rfl
    refine pure_ (i := 4) (N := some 36) (v := ?_) (a' := ?_) #[true, true, true, true, true, false, false, false, false, false, false, false, false, false] rfl rfl (any_of HT_.out (by kernel_rfl)) (fun _ _ _ h => h) (Or.inl ⟨by rfl, ?_⟩) ?_ ?_
    rotate_left
    · intro w'
      go_simp
      with_reducible rfl
    rotate_left
    · simp only [Act.put, List.setIfInBounds_toArray, List.set_cons_zero, List.set_cons_succ, i64_w, i32_w]
      rfl
    refine pure_ (i := 5) (N := some 37) (v := ?_) (a' := ?_) #[true, true, true, true, true, true, false, false, false, false, false, false, false, false] rfl rfl (any_of HT_.out (by kernel_rfl)) (fun _ _ _ h => h) (Or.inl ⟨by rfl, ?_⟩) ?_ ?_
    rotate_left
    · intro w'
      go_simp
      with_reducible rfl
    rotate_left
    · simp only [Act.put, List.setIfInBounds_toArray, List.set_cons_zero, List.set_cons_succ, i64_w, i32_w]
      rfl
    refine take_ (i := 6) (N := some 38) (v := ?_) (a' := ?_) #[true, true, true, true, true, true, true, false, false, false, false, false, false, false] rfl rfl (take_ofW HT_.out HW_.out (by kernel_rfl)) (fun _ _ _ h => h) (Or.inl ⟨by rfl, ?_⟩) hHeld ?_ ?_
    rotate_left
    · rintro w' ⟨s0, s1⟩
      go_simp
      with_reducible rfl
    rotate_left
    · simp only [Act.put, List.setIfInBounds_toArray, List.set_cons_zero, List.set_cons_succ, i64_w, i32_w]
      rfl
    refine take_ (i := 8) (N := some 40) (v := ?_) (a' := ?_) #[true, true, true, true, true, true, true, false, true, false, false, false, false, false] rfl rfl (take_ofW HT_.out HW_.out (by kernel_rfl)) (fun _ _ _ h => h) (Or.inl ⟨by rfl, ?_⟩) hHeld ?_ ?_
    rotate_left
    · rintro w' ⟨s0, s1⟩
      go_simp
      with_reducible rfl
    rotate_left
    · simp only [Act.put, List.setIfInBounds_toArray, List.set_cons_zero, List.set_cons_succ, i64_w, i32_w]
      rfl
    refine one_ (i := 7) (N := some 39) #[true, true, true, true, true, true, true, true, true, false, false, false, false, false] rfl rfl (one_of HT_.out (by kernel_rfl)) (by decide) (fun K hK => ?_)
    refine goes_ Try.func33 (by kernel_rfl) rfl #[.agg #[.slice Ao27 t1014.length co27]] (by rfl) rfl rfl (by (try simp only [List.map_toArray, List.map_cons, List.map_nil]); first | done | rfl | (simp only [List.length_drop, List.length_take]; rfl)) ?_
    with_reducible refine (nat_Nat_Bits.calls _ _ t1014 t1030 _ ?side1 ?side2 A14.out).mono ?_
    (case side1 => exact (Kd.R_reads' HO1016.out).2.2)
    (case side2 => exact (Kd.R_reads' HO1016.out).2.1)
    rintro e w37 ⟨rfl, hb⟩
    refine ⟨_, rfl, ?_⟩
    replace HO1004 := Aside0.mk (Kd.V_below (by (with_reducible repeat (first | apply Kd.V_alloc | apply Kd.V_drewN | apply Kd.V_drew)); exact HO1004.out) hb)
    replace HO1007 := Aside0.mk (Kd.V_below (by (with_reducible repeat (first | apply Kd.V_alloc | apply Kd.V_drewN | apply Kd.V_drew)); exact HO1007.out) hb)
    replace HO1013 := Aside0.mk (Kd.R_below (by (with_reducible repeat (first | apply Kd.R_alloc | apply Kd.R_drewN | apply Kd.R_drew)); exact HO1013.out) hb)
    replace HO1016 := Aside0.mk (Kd.R_below (by (with_reducible repeat (first | apply Kd.R_alloc | apply Kd.R_drewN | apply Kd.R_drew)); exact HO1016.out) hb)
    replace HO1019 := Aside0.mk (Kd.R_below (by (with_reducible repeat (first | apply Kd.R_alloc | apply Kd.R_drewN | apply Kd.R_drew)); exact HO1019.out) hb)
    replace HO1025 := Aside0.mk (Kd.R_below (by (with_reducible repeat (first | apply Kd.R_alloc | apply Kd.R_drewN | apply Kd.R_drew)); exact HO1025.out) hb)
    replace HO1028 := Aside0.mk (Kd.R_below (by (with_reducible repeat (first | apply Kd.R_alloc | apply Kd.R_drewN | apply Kd.R_drew)); exact HO1028.out) hb)
    replace BK1021 := Aside0.mk (blk_below (g := gb1021) (o := .cells #[.slice Ao27 t1014.length co27] 25 (0, 0)) (by (with_reducible repeat (first | refine blk_drewN ?_ _ | refine blk_drew ?_ | refine blk_alloc ?_ _)); exact BK1021.out) hb)
    replace BK1022 := Aside0.mk (blk_below (g := gb1022) (o := .cells #[.slice Ao30 t1017.length co30] 25 (0, 0)) (by (with_reducible repeat (first | refine blk_drewN ?_ _ | refine blk_drew ?_ | refine blk_alloc ?_ _)); exact BK1022.out) hb)
    replace HB := Aside0.mk (below_step (by repeat (first | (with_reducible first | exact HB.out | apply below_alloc | apply pw_below_drewN | apply below_drew1 | refine below_set ?_ GE1021.out | refine below_set ?_ GE1022.out) | exact HB.out)) hb)
    (try clear hb)
    (try clear hb2)
    (try clear hk)
    (try clear hi)
    refine hK.out _ _ ⟨(blk_cell BK1021.out 0).trans rfl, (blk_cell BK1022.out 0).trans rfl⟩ (fun hHeld => ?_)
    clear hK K
    refine norm_ (a' := ?_) ?_ ?_
    rotate_left
    · show Act.put _ (some 39) _ = _
      simp only [Act.put, List.setIfInBounds_toArray, List.set_cons_zero, List.set_cons_succ, i64_w, i32_w]
      rfl
    refine one_ (i := 9) (N := some 41) #[true, true, true, true, true, true, true, true, true, true, false, false, false, false] rfl rfl (one_of HT_.out (by kernel_rfl)) (by decide) (fun K hK => ?_)
    refine goes_ Try.func33 (by kernel_rfl) rfl #[.agg #[.slice Ao30 t1017.length co30]] (by rfl) rfl rfl (by (try simp only [List.map_toArray, List.map_cons, List.map_nil]); first | done | rfl | (simp only [List.length_drop, List.length_take]; rfl)) ?_
    with_reducible refine (nat_Nat_Bits.calls _ _ t1017 t1031 _ ?side1 ?side2 A15.out).mono ?_
    (case side1 => exact (Kd.R_reads' HO1019.out).2.2)
    (case side2 => exact (Kd.R_reads' HO1019.out).2.1)
    rintro e w38 ⟨rfl, hb⟩
    refine ⟨_, rfl, ?_⟩
    replace HO1004 := Aside0.mk (Kd.V_below (by (with_reducible repeat (first | apply Kd.V_alloc | apply Kd.V_drewN | apply Kd.V_drew)); exact HO1004.out) hb)
    replace HO1007 := Aside0.mk (Kd.V_below (by (with_reducible repeat (first | apply Kd.V_alloc | apply Kd.V_drewN | apply Kd.V_drew)); exact HO1007.out) hb)
    replace HO1013 := Aside0.mk (Kd.R_below (by (with_reducible repeat (first | apply Kd.R_alloc | apply Kd.R_drewN | apply Kd.R_drew)); exact HO1013.out) hb)
    replace HO1016 := Aside0.mk (Kd.R_below (by (with_reducible repeat (first | apply Kd.R_alloc | apply Kd.R_drewN | apply Kd.R_drew)); exact HO1016.out) hb)
    replace HO1019 := Aside0.mk (Kd.R_below (by (with_reducible repeat (first | apply Kd.R_alloc | apply Kd.R_drewN | apply Kd.R_drew)); exact HO1019.out) hb)
    replace HO1025 := Aside0.mk (Kd.R_below (by (with_reducible repeat (first | apply Kd.R_alloc | apply Kd.R_drewN | apply Kd.R_drew)); exact HO1025.out) hb)
    replace HO1028 := Aside0.mk (Kd.R_below (by (with_reducible repeat (first | apply Kd.R_alloc | apply Kd.R_drewN | apply Kd.R_drew)); exact HO1028.out) hb)
    replace BK1021 := Aside0.mk (blk_below (g := gb1021) (o := .cells #[.slice Ao27 t1014.length co27] 25 (0, 0)) (by (with_reducible repeat (first | refine blk_drewN ?_ _ | refine blk_drew ?_ | refine blk_alloc ?_ _)); exact BK1021.out) hb)
    replace BK1022 := Aside0.mk (blk_below (g := gb1022) (o := .cells #[.slice Ao30 t1017.length co30] 25 (0, 0)) (by (with_reducible repeat (first | refine blk_drewN ?_ _ | refine blk_drew ?_ | refine blk_alloc ?_ _)); exact BK1022.out) hb)
    replace HB := Aside0.mk (below_step (by repeat (first | (with_reducible first | exact HB.out | apply below_alloc | apply pw_below_drewN | apply below_drew1 | refine below_set ?_ GE1021.out | refine below_set ?_ GE1022.out) | exact HB.out)) hb)
    (try clear hb)
    (try clear hb2)
    (try clear hk)
    (try clear hi)
    refine hK.out _ _ ⟨(blk_cell BK1021.out 0).trans rfl, (blk_cell BK1022.out 0).trans rfl⟩ (fun hHeld => ?_)
    clear hK K
    refine norm_ (a' := ?_) ?_ ?_
    rotate_left
    · show Act.put _ (some 41) _ = _
      simp only [Act.put, List.setIfInBounds_toArray, List.set_cons_zero, List.set_cons_succ, i64_w, i32_w]
      rfl
    refine pure_ (i := 10) (N := some 42) (v := ?_) (a' := ?_) #[true, true, true, true, true, true, true, true, true, true, true, false, false, false] rfl rfl (any_of HT_.out (by kernel_rfl)) (fun _ _ _ h => h) (Or.inl ⟨by rfl, ?_⟩) ?_ ?_
    rotate_left
    · intro w'
      go_simp
      with_reducible rfl
    rotate_left
    · simp only [Act.put, List.setIfInBounds_toArray, List.set_cons_zero, List.set_cons_succ, i64_w, i32_w]
      rfl
    refine pure_ (i := 11) (N := some 43) (v := ?_) (a' := ?_) #[true, true, true, true, true, true, true, true, true, true, true, true, false, false] rfl rfl (any_of HT_.out (by kernel_rfl)) (fun _ _ _ h => h) (Or.inl ⟨by rfl, ?_⟩) ?_ ?_
    rotate_left
    · intro w'
      go_simp
      with_reducible rfl
    rotate_left
    · simp only [Act.put, List.setIfInBounds_toArray, List.set_cons_zero, List.set_cons_succ, i64_w, i32_w]
      rfl
    refine pure_ (i := 12) (N := some 44) (v := ?_) (a' := ?_) #[true, true, true, true, true, true, true, true, true, true, true, true, true, false] rfl rfl (any_of HT_.out (by kernel_rfl)) (fun _ _ _ h => h) (Or.inl ⟨by rfl, ?_⟩) ?_ ?_
    rotate_left
    · intro w'
      go_simp
      with_reducible rfl
    rotate_left
    · simp only [Act.put, List.setIfInBounds_toArray, List.set_cons_zero, List.set_cons_succ, i64_w, i32_w]
      rfl
    refine pure_ (i := 13) (N := some 4) (v := ?_) (a' := ?_) #[true, true, true, true, true, true, true, true, true, true, true, true, true, true] rfl rfl (any_of HT_.out (by kernel_rfl)) (fun _ _ _ h => h) (Or.inl ⟨by rfl, ?_⟩) ?_ ?_
    rotate_left
    · intro w'
      go_simp
      with_reducible rfl
    rotate_left
    · simp only [Act.put, List.setIfInBounds_toArray, List.set_cons_zero, List.set_cons_succ, i64_w, i32_w]
      rfl
    refine done_ (done_of HT_.out (by kernel_rfl)) ?_
    try go_wp2
    go_ret
    exact ⟨rfl, by repeat (first | (with_reducible first | exact HB.out | apply below_alloc | apply pw_below_drewN | apply below_drew1 | refine below_set ?_ GE1021.out | refine below_set ?_ GE1022.out) | exact HB.out)⟩
  rw [if_neg c10] at H
  have c10b0 : ((t1026.length : Int) == 0) = false := beq_eq_false_iff_ne.mpr c10
  have c10b1 : ((t1026.length : Int) != 0) = true := bne_iff_ne.mpr c10
  have c10b2 : ¬ (t1026 = []) := fun h_ => c10 (by rw [h_]; rfl)
  replace H := Option.bind_eq_some_iff.mp H
  obtain ⟨⟨t1032, t1033⟩, A390, H⟩ := H
  have A39 := Aside0.mk A390
  clear A390
  replace H := Option.bind_eq_some_iff.mp H
  obtain ⟨t1038, A400, H⟩ := H
  have A40 := Aside0.mk A400
  clear A400
  by_cases c41 : t1038 = true
  rotate_left
  · replace c41 := Bool.eq_false_iff.mpr c41
    subst c41
    have H1 : (some false) = some r := by rw [if_neg (show ¬ (false = true) by decide)] at H; exact H
    clear H
    have H := H1
    clear H1
    exact absurd (H.trans (congrArg some HR_.out)) (by simp)

  subst c41
  have H1 : (if t1020 = true then ((numerarylaw04_of.f k t1014).bind fun t1039 => ((numeraryref02_Cmp.f k t1039 t1032).bind fun t1042 => (if t1042 = 0 then ((numerarylaw04_of.f k t1017).bind fun t1043 => ((numeraryref02_Cmp.f k t1043 t1033).bind fun t1046 => (some (t1046 == 0)))) else (some false)))) else (some false)) = some r := by rw [if_pos rfl] at H; exact H
  clear H
  have H := H1
  clear H1
  by_cases c42 : t1020 = true
  rotate_left
  · replace c42 := Bool.eq_false_iff.mpr c42
    subst c42
    have H1 : (some false) = some r := by rw [if_neg (show ¬ (false = true) by decide)] at H; exact H
    clear H
    have H := H1
    clear H1
    exact absurd (H.trans (congrArg some HR_.out)) (by simp)
  subst c42
  have H1 : ((numerarylaw04_of.f k t1014).bind fun t1039 => ((numeraryref02_Cmp.f k t1039 t1032).bind fun t1042 => (if t1042 = 0 then ((numerarylaw04_of.f k t1017).bind fun t1043 => ((numeraryref02_Cmp.f k t1043 t1033).bind fun t1046 => (some (t1046 == 0)))) else (some false)))) = some r := by rw [if_pos rfl] at H; exact H
  clear H
  have H := H1
  clear H1
  replace H := Option.bind_eq_some_iff.mp H
  obtain ⟨t1039, A430, H⟩ := H
  have A43 := Aside0.mk A430
  clear A430
  replace H := Option.bind_eq_some_iff.mp H
  obtain ⟨t1042, A440, H⟩ := H
  have A44 := Aside0.mk A440
  clear A440
  by_cases c45 : t1042 = 0
  rotate_left
  · rw [if_neg c45] at H
    exact absurd (H.trans (congrArg some HR_.out)) (by simp)
  rw [if_pos c45] at H
  have c45b0 : (t1042 == 0) = true := beq_iff_eq.mpr c45
  have c45b1 : (t1042 != 0) = false := bne_eq_false_iff_eq.mpr c45
  clear c45
  replace H := Option.bind_eq_some_iff.mp H
  obtain ⟨t1043, A460, H⟩ := H
  have A46 := Aside0.mk A460
  clear A460
  replace H := Option.bind_eq_some_iff.mp H
  obtain ⟨t1046, A470, H⟩ := H
  have A47 := Aside0.mk A470
  clear A470
  obtain rfl := Option.some.inj H
  go_enter Try.func12, Try.ntmps12
  go_wp2_with (first | ((with_reducible refine gate_callee (f := 41) rfl ?_); refine goesL_ (some 13) rfl rfl Try.func41 (by kernel_rfl) rfl #[.slice A0 l0.length c0, .int .i64 12] rfl (by (try simp only [List.map_toArray, List.map_cons, List.map_nil]); first | done | rfl | (simp only [List.length_drop, List.length_take]; rfl)) ?_; (with_reducible refine (numerarylaw04_few.calls (fun k_ => k_ < w.heap.size) _ _ l0 12 t1002 _ ?side1 A3.out).mono ?_); (case side1 => exact Kd.V_mk HC0.out (Kd.F_below (Kd.C_F (Kd.heap_int .u32) HR0.out) (by repeat (first | (with_reducible first | exact HB.out | apply below_alloc | apply pw_below_drewN | apply below_drew1) | exact HB.out)))); rintro e w48 ⟨v1003, rfl, ho0, hb⟩; refine ⟨_, rfl, ?_⟩; have HO1004 := Aside0.mk (Kd.V_lower (Kd.V_mono (ok' := fun k_ => True) ho0 (fun k_ hk_ => trivial)) (below_size (by repeat (first | (with_reducible first | exact HB.out | apply below_alloc | apply pw_below_drewN | apply below_drew1) | exact HB.out)))); replace HB := Aside0.mk (below_step (by repeat (first | (with_reducible first | exact HB.out | apply below_alloc | apply pw_below_drewN | apply below_drew1) | exact HB.out)) hb)) | ((with_reducible refine gate_callee (f := 41) rfl ?_); refine goesL_ (some 15) rfl rfl Try.func41 (by kernel_rfl) rfl #[.slice A1 l1.length c1, .int .i64 8] rfl (by (try simp only [List.map_toArray, List.map_cons, List.map_nil]); first | done | rfl | (simp only [List.length_drop, List.length_take]; rfl)) ?_; (with_reducible refine (numerarylaw04_few.calls (fun k_ => k_ < w.heap.size) _ _ l1 8 t1005 _ ?side1 A4.out).mono ?_); (case side1 => exact Kd.V_mk HC1.out (Kd.F_below (Kd.C_F (Kd.heap_int .u32) HR1.out) (by repeat (first | (with_reducible first | exact HB.out | apply below_alloc | apply pw_below_drewN | apply below_drew1) | exact HB.out)))); rintro e w49 ⟨v1006, rfl, ho0, hb⟩; refine ⟨_, rfl, ?_⟩; replace HO1004 := Aside0.mk (Kd.V_below (by (with_reducible repeat (first | apply Kd.V_alloc | apply Kd.V_drewN | apply Kd.V_drew)); exact HO1004.out) hb); have HO1007 := Aside0.mk (Kd.V_lower (Kd.V_mono (ok' := fun k_ => True) ho0 (fun k_ hk_ => trivial)) (below_size (by repeat (first | (with_reducible first | exact HB.out | apply below_alloc | apply pw_below_drewN | apply below_drew1) | exact HB.out)))); replace HB := Aside0.mk (below_step (by repeat (first | (with_reducible first | exact HB.out | apply below_alloc | apply pw_below_drewN | apply below_drew1) | exact HB.out)) hb); obtain ⟨Ao50, co50, eo50⟩ := Kd.V_slice HO1004.out; subst eo50) | ((with_reducible refine gate_callee (f := 16) rfl ?_); refine goesL_ (some 18) rfl rfl Try.func16 (by kernel_rfl) rfl #[.slice Ao50 t1002.length co50] rfl (by (try simp only [List.map_toArray, List.map_cons, List.map_nil]); first | done | rfl | (simp only [List.length_drop, List.length_take]; rfl)) ?_; (with_reducible refine (nat_Made.calls k _ _ t1002 t1008 _ ?side1 ?side2 A5.out).mono ?_); (case side1 => exact (Kd.V_reads' HO1004.out).2.2); (case side2 => exact (Kd.V_reads' HO1004.out).2.1); rintro e w51 ⟨v1009, rfl, ho0, hb⟩; refine ⟨_, rfl, ?_⟩; replace HO1004 := Aside0.mk (Kd.V_elder' (by (with_reducible repeat (first | apply Kd.V_alloc | apply Kd.V_drewN | apply Kd.V_drew)); exact HO1004.out) (Kd.R_base ho0) hb); replace HO1007 := Aside0.mk (Kd.V_elder' (by (with_reducible repeat (first | apply Kd.V_alloc | apply Kd.V_drewN | apply Kd.V_drew)); exact HO1007.out) (Kd.R_base ho0) hb); have HO1010 := Aside0.mk (Kd.R_lower ho0 (below_size (by repeat (first | (with_reducible first | exact HB.out | apply below_alloc | apply pw_below_drewN | apply below_drew1) | exact HB.out)))); replace HB := Aside0.mk (below_step (by repeat (first | (with_reducible first | exact HB.out | apply below_alloc | apply pw_below_drewN | apply below_drew1) | exact HB.out)) hb); obtain ⟨Ao52, co52, eo52⟩ := Kd.V_slice HO1007.out; subst eo52) | ((with_reducible refine gate_callee (f := 16) rfl ?_); refine goesL_ (some 20) rfl rfl Try.func16 (by kernel_rfl) rfl #[.slice Ao52 t1005.length co52] rfl (by (try simp only [List.map_toArray, List.map_cons, List.map_nil]); first | done | rfl | (simp only [List.length_drop, List.length_take]; rfl)) ?_; (with_reducible refine (nat_Made.calls k _ _ t1005 t1011 _ ?side1 ?side2 A6.out).mono ?_); (case side1 => exact (Kd.V_reads' HO1007.out).2.2); (case side2 => exact (Kd.V_reads' HO1007.out).2.1); rintro e w53 ⟨v1012, rfl, ho0, hb⟩; refine ⟨_, rfl, ?_⟩; replace HO1004 := Aside0.mk (Kd.V_elder' (by (with_reducible repeat (first | apply Kd.V_alloc | apply Kd.V_drewN | apply Kd.V_drew)); exact HO1004.out) (Kd.R_base ho0) hb); replace HO1007 := Aside0.mk (Kd.V_elder' (by (with_reducible repeat (first | apply Kd.V_alloc | apply Kd.V_drewN | apply Kd.V_drew)); exact HO1007.out) (Kd.R_base ho0) hb); have HO1013 := Aside0.mk (Kd.R_lower (Kd.R_new' ho0 (Kd.R_lt (by (with_reducible repeat (first | apply Kd.R_alloc | apply Kd.R_drewN | apply Kd.R_drew)); exact HO1010.out))) (below_size (by repeat (first | (with_reducible first | exact HB.out | apply below_alloc | apply pw_below_drewN | apply below_drew1) | exact HB.out)))); replace HO1010 := Aside0.mk (Kd.R_elder' (by (with_reducible repeat (first | apply Kd.R_alloc | apply Kd.R_drewN | apply Kd.R_drew)); exact HO1010.out) (Kd.R_base ho0) hb); replace HB := Aside0.mk (below_step (by repeat (first | (with_reducible first | exact HB.out | apply below_alloc | apply pw_below_drewN | apply below_drew1) | exact HB.out)) hb); obtain ⟨Ao54, co54, eo54⟩ := Kd.R_slice HO1010.out; subst eo54; obtain ⟨Ao55, co55, eo55⟩ := Kd.R_slice HO1013.out; subst eo55) | ((with_reducible refine gate_callee (f := 42) rfl ?_); refine goesL_ (some 21) rfl rfl Try.func42 (by kernel_rfl) rfl #[.agg #[.slice Ao54 t1008.length co54], .agg #[.slice Ao55 t1011.length co55]] rfl (by (try simp only [List.map_toArray, List.map_cons, List.map_nil]); first | done | rfl | (simp only [List.length_drop, List.length_take]; rfl)) ?_; (with_reducible refine (quot_Div.calls k (fun k_ => some k_ = (.slice Ao54 t1008.length co54 : Value).ownBlock) (.slice Ao54 t1008.length co54) t1008 _ _ t1011 t1014 t1017 true w _ ?side1 ?side2 ?side3 ?side4 A7.out).mono ?_); (case side1 => repeat (first | (with_reducible first | exact HB.out | apply below_alloc | apply pw_below_drewN | apply below_drew1) | exact HB.out)); (case side2 => exact Kd.R_tight rfl HO1010.out); (case side3 => exact Kd.C_kept_own (HO1013.out) (fun k_ hk_ hs_ => (hk_.2) hs_)); (case side4 => exact (Kd.R_reads' HO1013.out).2.1); rintro e w56 ⟨v1015, v1018, rfl, ho0, ho1, hb, hkp⟩; refine ⟨_, rfl, ?_⟩; have n0_ := Aside0.mk (Kd.V_mono (ok' := fun k_ => some k_ ≠ (.slice Ao55 t1011.length co55 : Value).ownBlock ∧ some k_ ≠ (v1015 : Value).ownBlock ∧ some k_ ≠ (v1018 : Value).ownBlock) (Kd.V_keptB (HO1004.out) hkp (fun k_ hk_ hs_ => (hk_.1.2) hs_)) (fun k_ hk_ => ⟨hk_.1.2, fun e_ => Or.elim (ho0.1 k_ e_.symm).1 (fun hs_ => hk_.2.1 hs_) (fun hn_ => Nat.not_le.2 hk_.2.2 hn_), fun e_ => Or.elim (ho1.1 k_ e_.symm).1 (fun hs_ => hk_.2.1 hs_) (fun hn_ => Nat.not_le.2 hk_.2.2 hn_)⟩)); have n1_ := Aside0.mk (Kd.V_mono (ok' := fun k_ => some k_ ≠ (.slice Ao55 t1011.length co55 : Value).ownBlock ∧ some k_ ≠ (v1015 : Value).ownBlock ∧ some k_ ≠ (v1018 : Value).ownBlock) (Kd.V_keptB (HO1007.out) hkp (fun k_ hk_ hs_ => (hk_.1.2) hs_)) (fun k_ hk_ => ⟨hk_.1.2, fun e_ => Or.elim (ho0.1 k_ e_.symm).1 (fun hs_ => hk_.2.1 hs_) (fun hn_ => Nat.not_le.2 hk_.2.2 hn_), fun e_ => Or.elim (ho1.1 k_ e_.symm).1 (fun hs_ => hk_.2.1 hs_) (fun hn_ => Nat.not_le.2 hk_.2.2 hn_)⟩)); have n2_ := Aside0.mk (Kd.R_mono (ok' := fun k_ => some k_ ≠ (v1015 : Value).ownBlock ∧ some k_ ≠ (v1018 : Value).ownBlock) (Kd.R_keptB (HO1013.out) hkp (fun k_ hk_ hs_ => (hk_.2) hs_)) (fun k_ hk_ => ⟨fun e_ => Or.elim (ho0.1 k_ e_.symm).1 (fun hs_ => hk_.2.1 hs_) (fun hn_ => Nat.not_le.2 hk_.2.2 hn_), fun e_ => Or.elim (ho1.1 k_ e_.symm).1 (fun hs_ => hk_.2.1 hs_) (fun hn_ => Nat.not_le.2 hk_.2.2 hn_)⟩)); have n3_ := Aside0.mk (Kd.R_mono (ok' := fun k_ => some k_ ≠ (v1018 : Value).ownBlock ∧ some k_ ≠ (.slice Ao55 t1011.length co55 : Value).ownBlock) ho0 (fun k_ hk_ => ⟨hk_.2, Or.elim hk_.1 (fun hs_ => fun e_ => (((HO1013.out).1 k_ e_.symm).2) hs_) (fun hn_ => (Kd.fresh' (Kd.R_lt (by (with_reducible repeat (first | apply Kd.R_alloc | apply Kd.R_drewN | apply Kd.R_drew)); exact HO1013.out)) k_ hn_))⟩)); have n4_ := Aside0.mk (Kd.R_mono (ok' := fun k_ => some k_ ≠ (v1015 : Value).ownBlock ∧ some k_ ≠ (.slice Ao55 t1011.length co55 : Value).ownBlock) ho1 (fun k_ hk_ => ⟨hk_.2, Or.elim hk_.1 (fun hs_ => fun e_ => (((HO1013.out).1 k_ e_.symm).2) hs_) (fun hn_ => (Kd.fresh' (Kd.R_lt (by (with_reducible repeat (first | apply Kd.R_alloc | apply Kd.R_drewN | apply Kd.R_drew)); exact HO1013.out)) k_ hn_))⟩)); have n5_ := Aside0.mk (hb); clear HO1004; clear HO1007; clear HO1013; clear HB; clear HO1010; have HO1004 := n0_; have HO1007 := n1_; have HO1013 := n2_; have HO1016 := n3_; have HO1019 := n4_; have HB := n5_; clear n0_ n1_ n2_ n3_ n4_ n5_; (try clear ho1)) | ((with_reducible refine gate_dst (N := 5) rfl ?_); refine box_event ?hg (N := 5) ?hd (cs := #[.slice none 0 0]) (t := 25) ?hr ?_; (case hd => rfl); (case hg => rfl); (case hr => first | (go_simp; done) | (go_simp; rfl)); intro gb1021 hg w57 hbox hb; replace HO1004 := Aside0.mk (Kd.V_below (Kd.V_elderB (by (with_reducible repeat (first | apply Kd.V_alloc | apply Kd.V_drewN | apply Kd.V_drew)); exact HO1004.out) gb1021 (Nat.le_of_eq hg.symm)) hb); replace HO1007 := Aside0.mk (Kd.V_below (Kd.V_elderB (by (with_reducible repeat (first | apply Kd.V_alloc | apply Kd.V_drewN | apply Kd.V_drew)); exact HO1007.out) gb1021 (Nat.le_of_eq hg.symm)) hb); replace HO1013 := Aside0.mk (Kd.R_below (by (with_reducible repeat (first | apply Kd.R_alloc | apply Kd.R_drewN | apply Kd.R_drew)); exact HO1013.out) hb); replace HO1016 := Aside0.mk (Kd.R_below (by (with_reducible repeat (first | apply Kd.R_alloc | apply Kd.R_drewN | apply Kd.R_drew)); exact HO1016.out) hb); replace HO1019 := Aside0.mk (Kd.R_below (by (with_reducible repeat (first | apply Kd.R_alloc | apply Kd.R_drewN | apply Kd.R_drew)); exact HO1019.out) hb); have BK1021 := Aside0.mk (hbox); have GW1021 := Aside0.mk ((by rw [hg]; exact (below_size (by repeat (first | (with_reducible first | exact HB.out | apply below_alloc | apply pw_below_drewN | apply below_drew1) | exact HB.out))) : w.heap.size ≤ gb1021)); have GE1021 := Aside0.mk ((by rw [hg]; exact (below_size (by repeat (first | (with_reducible first | exact HB.out | apply below_alloc | apply pw_below_drewN | apply below_drew1) | exact HB.out))) : w.heap.size ≤ gb1021)); replace HB := Aside0.mk (below_step (by repeat (first | (with_reducible first | exact HB.out | apply below_alloc | apply pw_below_drewN | apply below_drew1) | exact HB.out)) hb); clear hb hbox hg) | ((with_reducible refine gate_dst (N := 6) rfl ?_); refine box_event ?hg (N := 6) ?hd (cs := #[.slice none 0 0]) (t := 25) ?hr ?_; (case hd => rfl); (case hg => rfl); (case hr => first | (go_simp; done) | (go_simp; rfl)); intro gb1022 hg w58 hbox hb; replace HO1004 := Aside0.mk (Kd.V_below (Kd.V_elderB (by (with_reducible repeat (first | apply Kd.V_alloc | apply Kd.V_drewN | apply Kd.V_drew)); exact HO1004.out) gb1022 (Nat.le_of_eq hg.symm)) hb); replace HO1007 := Aside0.mk (Kd.V_below (Kd.V_elderB (by (with_reducible repeat (first | apply Kd.V_alloc | apply Kd.V_drewN | apply Kd.V_drew)); exact HO1007.out) gb1022 (Nat.le_of_eq hg.symm)) hb); replace HO1013 := Aside0.mk (Kd.R_below (by (with_reducible repeat (first | apply Kd.R_alloc | apply Kd.R_drewN | apply Kd.R_drew)); exact HO1013.out) hb); replace HO1016 := Aside0.mk (Kd.R_below (by (with_reducible repeat (first | apply Kd.R_alloc | apply Kd.R_drewN | apply Kd.R_drew)); exact HO1016.out) hb); replace HO1019 := Aside0.mk (Kd.R_below (by (with_reducible repeat (first | apply Kd.R_alloc | apply Kd.R_drewN | apply Kd.R_drew)); exact HO1019.out) hb); have BK1022 := Aside0.mk (hbox); have GW1022 := Aside0.mk ((by rw [hg]; exact (below_size (by repeat (first | (with_reducible first | exact HB.out | apply below_alloc | apply pw_below_drewN | apply below_drew1 | refine below_set ?_ GE1021.out) | exact HB.out))) : w.heap.size ≤ gb1022)); have GE1022 := Aside0.mk ((by rw [hg]; exact (below_size (by repeat (first | (with_reducible first | exact HB.out | apply below_alloc | apply pw_below_drewN | apply below_drew1 | refine below_set ?_ GE1021.out) | exact HB.out))) : w.heap.size ≤ gb1022)); replace HB := Aside0.mk (below_step (by repeat (first | (with_reducible first | exact HB.out | apply below_alloc | apply pw_below_drewN | apply below_drew1 | refine below_set ?_ GE1021.out) | exact HB.out)) hb); have NB1021_1022 := Aside0.mk ((by rw [hg]; exact Nat.ne_of_lt (blk_lt (g := gb1021) (o := .cells #[.slice none 0 0] 25 (0, 0)) (by (with_reducible repeat (first | refine blk_drewN ?_ _ | refine blk_drew ?_ | refine blk_alloc ?_ _)); exact BK1021.out)) : gb1021 ≠ gb1022)); have NB1022_1021 := Aside0.mk ((by rw [hg]; exact Nat.ne_of_gt (blk_lt (g := gb1021) (o := .cells #[.slice none 0 0] 25 (0, 0)) (by (with_reducible repeat (first | refine blk_drewN ?_ _ | refine blk_drew ?_ | refine blk_alloc ?_ _)); exact BK1021.out)) : gb1022 ≠ gb1021)); replace BK1021 := Aside0.mk (blk_below (g := gb1021) (o := .cells #[.slice none 0 0] 25 (0, 0)) (by (with_reducible repeat (first | refine blk_drewN ?_ _ | refine blk_drew ?_ | refine blk_alloc ?_ _)); exact BK1021.out) hb); clear hb hbox hg; obtain ⟨Ao59, co59, eo59⟩ := Kd.R_slice HO1016.out; subst eo59; have hnb60 := NB1021_1022.out; have hnc60 := NB1022_1021.out; have hcz61_0 : w58.cell? ⟨gb1021, 0, none⟩ = some (.slice none 0 0) := (blk_cell BK1021.out 0).trans rfl; have hfz61_0 := blk_frozen BK1021.out 0; obtain ⟨Ao62, co62, eo62⟩ := Kd.R_slice HO1019.out; subst eo62; have hcz63_0 : w58.cell? ⟨gb1022, 0, none⟩ = some (.slice none 0 0) := (blk_cell BK1022.out 0).trans rfl; have hfz63_0 := blk_frozen BK1022.out 0) | ((with_reducible refine gate_callee (f := 18) rfl ?_); refine goesL_ (some 26) rfl rfl Try.func18 (by kernel_rfl) rfl #[.slice Ao50 t1002.length co50] rfl (by (try simp only [List.map_toArray, List.map_cons, List.map_nil]); first | done | rfl | (simp only [List.length_drop, List.length_take]; rfl)) ?_; (with_reducible refine (numeraryref02_Made.calls k _ _ t1002 t1023 _ ?side1 ?side2 A8.out).mono ?_); (case side1 => exact (Kd.V_reads' (e := 23) (base := w.heap.size) (n := t1002.length) (c := co50) (by (with_reducible repeat (first | apply Kd.V_alloc | apply Kd.V_drewN | apply Kd.V_drew)); exact (Kd.V_mono (Kd.V_mono (Kd.V_far (p := ⟨gb1022, 0, none⟩) (Kd.V_far (p := ⟨gb1021, 0, none⟩) (Kd.V_mono (Kd.V_mono HO1004.out (fun k_ hk => (⟨hk, hk.1.2⟩ : _ ∧ k_ ≠ gb1021))) (fun k_ hk => (⟨hk, hk.1.2⟩ : _ ∧ k_ ≠ gb1022))) (fun _ hk => hk.1.2) (.slice Ao59 t1014.length co59)) (fun _ hk => hk.2) (.slice Ao62 t1017.length co62)) (fun _ h_ => h_.1)) (fun _ h_ => h_.1)))).2.2); (case side2 => exact (Kd.V_reads' HO1004.out).2.1); rintro e w64 ⟨v1024, rfl, ho0, hb⟩; refine ⟨_, rfl, ?_⟩; replace HO1004 := Aside0.mk (Kd.V_elder' (by (with_reducible repeat (first | apply Kd.V_alloc | apply Kd.V_drewN | apply Kd.V_drew)); exact (Kd.V_mono (Kd.V_mono (Kd.V_far (p := ⟨gb1022, 0, none⟩) (Kd.V_far (p := ⟨gb1021, 0, none⟩) (Kd.V_mono (Kd.V_mono HO1004.out (fun k_ hk => (⟨hk, hk.1.2⟩ : _ ∧ k_ ≠ gb1021))) (fun k_ hk => (⟨hk, hk.1.2⟩ : _ ∧ k_ ≠ gb1022))) (fun _ hk => hk.1.2) (.slice Ao59 t1014.length co59)) (fun _ hk => hk.2) (.slice Ao62 t1017.length co62)) (fun _ h_ => h_.1)) (fun _ h_ => h_.1))) (Kd.R_base ho0) hb); replace HO1007 := Aside0.mk (Kd.V_elder' (by (with_reducible repeat (first | apply Kd.V_alloc | apply Kd.V_drewN | apply Kd.V_drew)); exact (Kd.V_mono (Kd.V_mono (Kd.V_far (p := ⟨gb1022, 0, none⟩) (Kd.V_far (p := ⟨gb1021, 0, none⟩) (Kd.V_mono (Kd.V_mono HO1007.out (fun k_ hk => (⟨hk, hk.1.2⟩ : _ ∧ k_ ≠ gb1021))) (fun k_ hk => (⟨hk, hk.1.2⟩ : _ ∧ k_ ≠ gb1022))) (fun _ hk => hk.1.2) (.slice Ao59 t1014.length co59)) (fun _ hk => hk.2) (.slice Ao62 t1017.length co62)) (fun _ h_ => h_.1)) (fun _ h_ => h_.1))) (Kd.R_base ho0) hb); replace HO1013 := Aside0.mk (Kd.R_below (by (with_reducible repeat (first | apply Kd.R_alloc | apply Kd.R_drewN | apply Kd.R_drew)); exact (Kd.R_mono (Kd.R_mono (Kd.R_far (p := ⟨gb1022, 0, none⟩) (Kd.R_far (p := ⟨gb1021, 0, none⟩) (Kd.R_types (Kd.R_types HO1013.out BK1021.out (by decide)) BK1022.out (by decide)) (fun _ hk => hk.1.2) (.slice Ao59 t1014.length co59)) (fun _ hk => hk.2) (.slice Ao62 t1017.length co62)) (fun _ h_ => h_.1)) (fun _ h_ => h_.1))) hb); replace HO1016 := Aside0.mk (Kd.R_below (by (with_reducible repeat (first | apply Kd.R_alloc | apply Kd.R_drewN | apply Kd.R_drew)); exact (Kd.R_mono (Kd.R_mono (Kd.R_far (p := ⟨gb1022, 0, none⟩) (Kd.R_far (p := ⟨gb1021, 0, none⟩) (Kd.R_types (Kd.R_types HO1016.out BK1021.out (by decide)) BK1022.out (by decide)) (fun _ hk => hk.1.2) (.slice Ao59 t1014.length co59)) (fun _ hk => hk.2) (.slice Ao62 t1017.length co62)) (fun _ h_ => h_.1)) (fun _ h_ => h_.1))) hb); replace HO1019 := Aside0.mk (Kd.R_below (by (with_reducible repeat (first | apply Kd.R_alloc | apply Kd.R_drewN | apply Kd.R_drew)); exact (Kd.R_mono (Kd.R_mono (Kd.R_far (p := ⟨gb1022, 0, none⟩) (Kd.R_far (p := ⟨gb1021, 0, none⟩) (Kd.R_types (Kd.R_types HO1019.out BK1021.out (by decide)) BK1022.out (by decide)) (fun _ hk => hk.1.2) (.slice Ao59 t1014.length co59)) (fun _ hk => hk.2) (.slice Ao62 t1017.length co62)) (fun _ h_ => h_.1)) (fun _ h_ => h_.1))) hb); have HO1025 := Aside0.mk (Kd.R_lower ho0 (below_size (by repeat (first | (with_reducible first | exact HB.out | apply below_alloc | apply pw_below_drewN | apply below_drew1 | refine below_set ?_ GE1021.out | refine below_set ?_ GE1022.out) | exact HB.out)))); replace BK1021 := Aside0.mk (blk_below (g := gb1021) (o := .cells #[.slice Ao59 t1014.length co59] 25 (0, 0)) (by (with_reducible repeat (first | refine blk_drewN ?_ _ | refine blk_drew ?_ | refine blk_alloc ?_ _)); refine blk_far ?_ NB1021_1022.out _; (with_reducible repeat (first | refine blk_drewN ?_ _ | refine blk_drew ?_ | refine blk_alloc ?_ _)); refine blk_put (cs := #[.slice none 0 0]) ?_ 0 _ rfl; (with_reducible repeat (first | refine blk_drewN ?_ _ | refine blk_drew ?_ | refine blk_alloc ?_ _)); exact BK1021.out) hb); replace BK1022 := Aside0.mk (blk_below (g := gb1022) (o := .cells #[.slice Ao62 t1017.length co62] 25 (0, 0)) (by (with_reducible repeat (first | refine blk_drewN ?_ _ | refine blk_drew ?_ | refine blk_alloc ?_ _)); refine blk_put (cs := #[.slice none 0 0]) ?_ 0 _ rfl; (with_reducible repeat (first | refine blk_drewN ?_ _ | refine blk_drew ?_ | refine blk_alloc ?_ _)); refine blk_far ?_ NB1022_1021.out _; (with_reducible repeat (first | refine blk_drewN ?_ _ | refine blk_drew ?_ | refine blk_alloc ?_ _)); exact BK1022.out) hb); replace HB := Aside0.mk (below_step (by repeat (first | (with_reducible first | exact HB.out | apply below_alloc | apply pw_below_drewN | apply below_drew1 | refine below_set ?_ GE1021.out | refine below_set ?_ GE1022.out) | exact HB.out)) hb)) | ((with_reducible refine gate_callee (f := 18) rfl ?_); refine goesL_ (some 28) rfl rfl Try.func18 (by kernel_rfl) rfl #[.slice Ao52 t1005.length co52] rfl (by (try simp only [List.map_toArray, List.map_cons, List.map_nil]); first | done | rfl | (simp only [List.length_drop, List.length_take]; rfl)) ?_; (with_reducible refine (numeraryref02_Made.calls k _ _ t1005 t1026 _ ?side1 ?side2 A9.out).mono ?_); (case side1 => exact (Kd.V_reads' HO1007.out).2.2); (case side2 => exact (Kd.V_reads' HO1007.out).2.1); rintro e w65 ⟨v1027, rfl, ho0, hb⟩; refine ⟨_, rfl, ?_⟩; replace HO1004 := Aside0.mk (Kd.V_elder' (by (with_reducible repeat (first | apply Kd.V_alloc | apply Kd.V_drewN | apply Kd.V_drew)); exact HO1004.out) (Kd.R_base ho0) hb); replace HO1007 := Aside0.mk (Kd.V_elder' (by (with_reducible repeat (first | apply Kd.V_alloc | apply Kd.V_drewN | apply Kd.V_drew)); exact HO1007.out) (Kd.R_base ho0) hb); replace HO1013 := Aside0.mk (Kd.R_below (by (with_reducible repeat (first | apply Kd.R_alloc | apply Kd.R_drewN | apply Kd.R_drew)); exact HO1013.out) hb); replace HO1016 := Aside0.mk (Kd.R_below (by (with_reducible repeat (first | apply Kd.R_alloc | apply Kd.R_drewN | apply Kd.R_drew)); exact HO1016.out) hb); replace HO1019 := Aside0.mk (Kd.R_below (by (with_reducible repeat (first | apply Kd.R_alloc | apply Kd.R_drewN | apply Kd.R_drew)); exact HO1019.out) hb); have HO1028 := Aside0.mk (Kd.R_lower (Kd.R_new' ho0 (Kd.R_lt (by (with_reducible repeat (first | apply Kd.R_alloc | apply Kd.R_drewN | apply Kd.R_drew)); exact HO1025.out))) (below_size (by repeat (first | (with_reducible first | exact HB.out | apply below_alloc | apply pw_below_drewN | apply below_drew1 | refine below_set ?_ GE1021.out | refine below_set ?_ GE1022.out) | exact HB.out)))); replace HO1025 := Aside0.mk (Kd.R_elder' (by (with_reducible repeat (first | apply Kd.R_alloc | apply Kd.R_drewN | apply Kd.R_drew)); exact HO1025.out) (Kd.R_base ho0) hb); replace BK1021 := Aside0.mk (blk_below (g := gb1021) (o := .cells #[.slice Ao59 t1014.length co59] 25 (0, 0)) (by (with_reducible repeat (first | refine blk_drewN ?_ _ | refine blk_drew ?_ | refine blk_alloc ?_ _)); exact BK1021.out) hb); replace BK1022 := Aside0.mk (blk_below (g := gb1022) (o := .cells #[.slice Ao62 t1017.length co62] 25 (0, 0)) (by (with_reducible repeat (first | refine blk_drewN ?_ _ | refine blk_drew ?_ | refine blk_alloc ?_ _)); exact BK1022.out) hb); replace HB := Aside0.mk (below_step (by repeat (first | (with_reducible first | exact HB.out | apply below_alloc | apply pw_below_drewN | apply below_drew1 | refine below_set ?_ GE1021.out | refine below_set ?_ GE1022.out) | exact HB.out)) hb); obtain ⟨Ao66, co66, eo66⟩ := Kd.R_slice HO1028.out; subst eo66; obtain ⟨Ao67, co67, eo67⟩ := Kd.R_slice HO1025.out; subst eo67) | ((with_reducible refine gate_callee (f := 44) rfl ?_); refine goesL_ (some 48) rfl rfl Try.func44 (by kernel_rfl) rfl #[.slice Ao67 t1023.length co67, .slice Ao66 t1026.length co66] rfl (by (try simp only [List.map_toArray, List.map_cons, List.map_nil]); first | done | rfl | (simp only [List.length_drop, List.length_take]; rfl)) ?_; (with_reducible refine (numeraryref02_Div.calls k _ _ t1023 _ _ t1026 t1032 t1033 _ ?side1 ?side2 ?side3 ?side4 A39.out).mono ?_); (case side1 => exact (Kd.R_reads' HO1025.out).2.2); (case side2 => exact (Kd.R_reads' HO1025.out).2.1); (case side3 => exact (Kd.R_reads' HO1028.out).2.2); (case side4 => exact (Kd.R_reads' HO1028.out).2.1); rintro e w68 ⟨v1034, v1036, rfl, ho0, ho1, hb⟩; refine ⟨_, rfl, ?_⟩; replace HO1004 := Aside0.mk (Kd.V_mono (Kd.V_told (Kd.V_told (Kd.V_old (by (with_reducible repeat (first | apply Kd.V_alloc | apply Kd.V_drewN | apply Kd.V_drew)); exact HO1004.out) hb) (Kd.R_base ho0)) (Kd.R_base ho1)) (fun _ h_ => h_.1)); replace HO1007 := Aside0.mk (Kd.V_mono (Kd.V_told (Kd.V_told (Kd.V_old (by (with_reducible repeat (first | apply Kd.V_alloc | apply Kd.V_drewN | apply Kd.V_drew)); exact HO1007.out) hb) (Kd.R_base ho0)) (Kd.R_base ho1)) (fun _ h_ => h_.1)); replace HO1013 := Aside0.mk (Kd.R_below (by (with_reducible repeat (first | apply Kd.R_alloc | apply Kd.R_drewN | apply Kd.R_drew)); exact HO1013.out) hb); replace HO1016 := Aside0.mk (Kd.R_below (by (with_reducible repeat (first | apply Kd.R_alloc | apply Kd.R_drewN | apply Kd.R_drew)); exact HO1016.out) hb); replace HO1019 := Aside0.mk (Kd.R_below (by (with_reducible repeat (first | apply Kd.R_alloc | apply Kd.R_drewN | apply Kd.R_drew)); exact HO1019.out) hb); have HO1035 := Aside0.mk (Kd.R_lower (Kd.R_new' (Kd.R_new' ho0 (Kd.R_lt (by (with_reducible repeat (first | apply Kd.R_alloc | apply Kd.R_drewN | apply Kd.R_drew)); exact HO1025.out))) (Kd.R_lt (by (with_reducible repeat (first | apply Kd.R_alloc | apply Kd.R_drewN | apply Kd.R_drew)); exact HO1028.out))) (below_size (by repeat (first | (with_reducible first | exact HB.out | apply below_alloc | apply pw_below_drewN | apply below_drew1 | refine below_set ?_ GE1021.out | refine below_set ?_ GE1022.out) | exact HB.out)))); have HO1037 := Aside0.mk (Kd.R_lower (Kd.R_new' (Kd.R_new' ho1 (Kd.R_lt (by (with_reducible repeat (first | apply Kd.R_alloc | apply Kd.R_drewN | apply Kd.R_drew)); exact HO1025.out))) (Kd.R_lt (by (with_reducible repeat (first | apply Kd.R_alloc | apply Kd.R_drewN | apply Kd.R_drew)); exact HO1028.out))) (below_size (by repeat (first | (with_reducible first | exact HB.out | apply below_alloc | apply pw_below_drewN | apply below_drew1 | refine below_set ?_ GE1021.out | refine below_set ?_ GE1022.out) | exact HB.out)))); replace HO1025 := Aside0.mk (Kd.R_mono (Kd.R_told (Kd.R_told (Kd.R_old (by (with_reducible repeat (first | apply Kd.R_alloc | apply Kd.R_drewN | apply Kd.R_drew)); exact HO1025.out) hb) (Kd.R_base ho0)) (Kd.R_base ho1)) (fun _ h_ => h_.1)); replace HO1028 := Aside0.mk (Kd.R_mono (Kd.R_told (Kd.R_told (Kd.R_old (by (with_reducible repeat (first | apply Kd.R_alloc | apply Kd.R_drewN | apply Kd.R_drew)); exact HO1028.out) hb) (Kd.R_base ho0)) (Kd.R_base ho1)) (fun _ h_ => h_.1)); replace BK1021 := Aside0.mk (blk_below (g := gb1021) (o := .cells #[.slice Ao59 t1014.length co59] 25 (0, 0)) (by (with_reducible repeat (first | refine blk_drewN ?_ _ | refine blk_drew ?_ | refine blk_alloc ?_ _)); exact BK1021.out) hb); replace BK1022 := Aside0.mk (blk_below (g := gb1022) (o := .cells #[.slice Ao62 t1017.length co62] 25 (0, 0)) (by (with_reducible repeat (first | refine blk_drewN ?_ _ | refine blk_drew ?_ | refine blk_alloc ?_ _)); exact BK1022.out) hb); replace HB := Aside0.mk (below_step (by repeat (first | (with_reducible first | exact HB.out | apply below_alloc | apply pw_below_drewN | apply below_drew1 | refine below_set ?_ GE1021.out | refine below_set ?_ GE1022.out) | exact HB.out)) hb); (try clear ho1)) | ((with_reducible refine gate_callee (f := 43) rfl ?_); refine goesL_ (some 51) rfl rfl Try.func43 (by kernel_rfl) rfl #[] rfl (by (try simp only [List.map_toArray, List.map_cons, List.map_nil]); first | done | rfl | (simp only [List.length_drop, List.length_take]; rfl)) ?_; (with_reducible refine (numerarylaw04_wakes.calls k  true _ A40.out).mono ?_); rintro e w69 ⟨rfl, hb⟩; refine ⟨_, rfl, ?_⟩; replace HO1004 := Aside0.mk (Kd.V_below (by (with_reducible repeat (first | apply Kd.V_alloc | apply Kd.V_drewN | apply Kd.V_drew)); exact HO1004.out) hb); replace HO1007 := Aside0.mk (Kd.V_below (by (with_reducible repeat (first | apply Kd.V_alloc | apply Kd.V_drewN | apply Kd.V_drew)); exact HO1007.out) hb); replace HO1013 := Aside0.mk (Kd.R_below (by (with_reducible repeat (first | apply Kd.R_alloc | apply Kd.R_drewN | apply Kd.R_drew)); exact HO1013.out) hb); replace HO1016 := Aside0.mk (Kd.R_below (by (with_reducible repeat (first | apply Kd.R_alloc | apply Kd.R_drewN | apply Kd.R_drew)); exact HO1016.out) hb); replace HO1019 := Aside0.mk (Kd.R_below (by (with_reducible repeat (first | apply Kd.R_alloc | apply Kd.R_drewN | apply Kd.R_drew)); exact HO1019.out) hb); replace HO1025 := Aside0.mk (Kd.R_below (by (with_reducible repeat (first | apply Kd.R_alloc | apply Kd.R_drewN | apply Kd.R_drew)); exact HO1025.out) hb); replace HO1028 := Aside0.mk (Kd.R_below (by (with_reducible repeat (first | apply Kd.R_alloc | apply Kd.R_drewN | apply Kd.R_drew)); exact HO1028.out) hb); replace HO1035 := Aside0.mk (Kd.R_below (by (with_reducible repeat (first | apply Kd.R_alloc | apply Kd.R_drewN | apply Kd.R_drew)); exact HO1035.out) hb); replace HO1037 := Aside0.mk (Kd.R_below (by (with_reducible repeat (first | apply Kd.R_alloc | apply Kd.R_drewN | apply Kd.R_drew)); exact HO1037.out) hb); replace BK1021 := Aside0.mk (blk_below (g := gb1021) (o := .cells #[.slice Ao59 t1014.length co59] 25 (0, 0)) (by (with_reducible repeat (first | refine blk_drewN ?_ _ | refine blk_drew ?_ | refine blk_alloc ?_ _)); exact BK1021.out) hb); replace BK1022 := Aside0.mk (blk_below (g := gb1022) (o := .cells #[.slice Ao62 t1017.length co62] 25 (0, 0)) (by (with_reducible repeat (first | refine blk_drewN ?_ _ | refine blk_drew ?_ | refine blk_alloc ?_ _)); exact BK1022.out) hb); replace HB := Aside0.mk (below_step (by repeat (first | (with_reducible first | exact HB.out | apply below_alloc | apply pw_below_drewN | apply below_drew1 | refine below_set ?_ GE1021.out | refine below_set ?_ GE1022.out) | exact HB.out)) hb); have hcz70_0 : w69.cell? ⟨gb1021, 0, none⟩ = some (.slice Ao59 t1014.length co59) := (blk_cell BK1021.out 0).trans rfl; have hfz70_0 := blk_frozen BK1021.out 0) | (go_at_call 45; (with_reducible refine (numerarylaw04_of.calls k _ _ t1014 t1039 _ ?side1 ?side2 A43.out).mono ?_); (case side1 => exact (Kd.R_reads' HO1016.out).2.2); (case side2 => exact (Kd.R_reads' HO1016.out).2.1); rintro e w71 ⟨v1040, rfl, ho0, hb⟩; replace HO1004 := Aside0.mk (Kd.V_elder' (by (with_reducible repeat (first | apply Kd.V_alloc | apply Kd.V_drewN | apply Kd.V_drew)); exact HO1004.out) (Kd.R_base ho0) hb); replace HO1007 := Aside0.mk (Kd.V_elder' (by (with_reducible repeat (first | apply Kd.V_alloc | apply Kd.V_drewN | apply Kd.V_drew)); exact HO1007.out) (Kd.R_base ho0) hb); replace HO1013 := Aside0.mk (Kd.R_below (by (with_reducible repeat (first | apply Kd.R_alloc | apply Kd.R_drewN | apply Kd.R_drew)); exact HO1013.out) hb); replace HO1016 := Aside0.mk (Kd.R_below (by (with_reducible repeat (first | apply Kd.R_alloc | apply Kd.R_drewN | apply Kd.R_drew)); exact HO1016.out) hb); replace HO1019 := Aside0.mk (Kd.R_below (by (with_reducible repeat (first | apply Kd.R_alloc | apply Kd.R_drewN | apply Kd.R_drew)); exact HO1019.out) hb); have HO1041 := Aside0.mk (Kd.R_lower (Kd.R_new' (Kd.R_new' (Kd.R_new' (Kd.R_new' ho0 (Kd.R_lt (by (with_reducible repeat (first | apply Kd.R_alloc | apply Kd.R_drewN | apply Kd.R_drew)); exact HO1025.out))) (Kd.R_lt (by (with_reducible repeat (first | apply Kd.R_alloc | apply Kd.R_drewN | apply Kd.R_drew)); exact HO1028.out))) (Kd.R_lt (by (with_reducible repeat (first | apply Kd.R_alloc | apply Kd.R_drewN | apply Kd.R_drew)); exact HO1035.out))) (Kd.R_lt (by (with_reducible repeat (first | apply Kd.R_alloc | apply Kd.R_drewN | apply Kd.R_drew)); exact HO1037.out))) (below_size (by repeat (first | (with_reducible first | exact HB.out | apply below_alloc | apply pw_below_drewN | apply below_drew1 | refine below_set ?_ GE1021.out | refine below_set ?_ GE1022.out) | exact HB.out)))); replace HO1025 := Aside0.mk (Kd.R_elder' (by (with_reducible repeat (first | apply Kd.R_alloc | apply Kd.R_drewN | apply Kd.R_drew)); exact HO1025.out) (Kd.R_base ho0) hb); replace HO1028 := Aside0.mk (Kd.R_elder' (by (with_reducible repeat (first | apply Kd.R_alloc | apply Kd.R_drewN | apply Kd.R_drew)); exact HO1028.out) (Kd.R_base ho0) hb); replace HO1035 := Aside0.mk (Kd.R_elder' (by (with_reducible repeat (first | apply Kd.R_alloc | apply Kd.R_drewN | apply Kd.R_drew)); exact HO1035.out) (Kd.R_base ho0) hb); replace HO1037 := Aside0.mk (Kd.R_elder' (by (with_reducible repeat (first | apply Kd.R_alloc | apply Kd.R_drewN | apply Kd.R_drew)); exact HO1037.out) (Kd.R_base ho0) hb); replace BK1021 := Aside0.mk (blk_below (g := gb1021) (o := .cells #[.slice Ao59 t1014.length co59] 25 (0, 0)) (by (with_reducible repeat (first | refine blk_drewN ?_ _ | refine blk_drew ?_ | refine blk_alloc ?_ _)); exact BK1021.out) hb); replace BK1022 := Aside0.mk (blk_below (g := gb1022) (o := .cells #[.slice Ao62 t1017.length co62] 25 (0, 0)) (by (with_reducible repeat (first | refine blk_drewN ?_ _ | refine blk_drew ?_ | refine blk_alloc ?_ _)); exact BK1022.out) hb); replace HB := Aside0.mk (below_step (by repeat (first | (with_reducible first | exact HB.out | apply below_alloc | apply pw_below_drewN | apply below_drew1 | refine below_set ?_ GE1021.out | refine below_set ?_ GE1022.out) | exact HB.out)) hb); obtain ⟨Ao72, co72, eo72⟩ := Kd.R_slice HO1041.out; subst eo72; obtain ⟨Ao73, co73, eo73⟩ := Kd.R_slice HO1035.out; subst eo73) | (go_at_call 22; (with_reducible refine (numeraryref02_Cmp.calls k _ _ t1039 _ _ t1032 t1042 _ ?side1 ?side2 ?side3 ?side4 A44.out).mono ?_); (case side1 => exact (Kd.R_reads' HO1041.out).2.2); (case side2 => exact (Kd.R_reads' HO1041.out).2.1); (case side3 => exact (Kd.R_reads' HO1035.out).2.2); (case side4 => exact (Kd.R_reads' HO1035.out).2.1); rintro e w' ⟨rfl, ⟨nd, rfl⟩⟩; have hcz74_0 : w71.cell? ⟨gb1022, 0, none⟩ = some (.slice Ao62 t1017.length co62) := (blk_cell BK1022.out 0).trans rfl; have hfz74_0 := blk_frozen BK1022.out 0) | (go_at_call 45; (with_reducible refine (numerarylaw04_of.calls k _ _ t1017 t1043 _ ?side1 ?side2 A46.out).mono ?_); (case side1 => exact (Kd.R_reads' HO1019.out).2.2); (case side2 => exact (Kd.R_reads' HO1019.out).2.1); rintro e w75 ⟨v1044, rfl, ho0, hb⟩; replace HO1004 := Aside0.mk (Kd.V_elder' (by (with_reducible repeat (first | apply Kd.V_alloc | apply Kd.V_drewN | apply Kd.V_drew)); exact HO1004.out) (Kd.R_base ho0) hb); replace HO1007 := Aside0.mk (Kd.V_elder' (by (with_reducible repeat (first | apply Kd.V_alloc | apply Kd.V_drewN | apply Kd.V_drew)); exact HO1007.out) (Kd.R_base ho0) hb); replace HO1013 := Aside0.mk (Kd.R_below (by (with_reducible repeat (first | apply Kd.R_alloc | apply Kd.R_drewN | apply Kd.R_drew)); exact HO1013.out) hb); replace HO1016 := Aside0.mk (Kd.R_below (by (with_reducible repeat (first | apply Kd.R_alloc | apply Kd.R_drewN | apply Kd.R_drew)); exact HO1016.out) hb); replace HO1019 := Aside0.mk (Kd.R_below (by (with_reducible repeat (first | apply Kd.R_alloc | apply Kd.R_drewN | apply Kd.R_drew)); exact HO1019.out) hb); have HO1045 := Aside0.mk (Kd.R_lower (Kd.R_new' (Kd.R_new' (Kd.R_new' (Kd.R_new' (Kd.R_new' ho0 (Kd.R_lt (by (with_reducible repeat (first | apply Kd.R_alloc | apply Kd.R_drewN | apply Kd.R_drew)); exact HO1025.out))) (Kd.R_lt (by (with_reducible repeat (first | apply Kd.R_alloc | apply Kd.R_drewN | apply Kd.R_drew)); exact HO1028.out))) (Kd.R_lt (by (with_reducible repeat (first | apply Kd.R_alloc | apply Kd.R_drewN | apply Kd.R_drew)); exact HO1035.out))) (Kd.R_lt (by (with_reducible repeat (first | apply Kd.R_alloc | apply Kd.R_drewN | apply Kd.R_drew)); exact HO1037.out))) (Kd.R_lt (by (with_reducible repeat (first | apply Kd.R_alloc | apply Kd.R_drewN | apply Kd.R_drew)); exact HO1041.out))) (below_size (by repeat (first | (with_reducible first | exact HB.out | apply below_alloc | apply pw_below_drewN | apply below_drew1 | refine below_set ?_ GE1021.out | refine below_set ?_ GE1022.out) | exact HB.out)))); replace HO1025 := Aside0.mk (Kd.R_elder' (by (with_reducible repeat (first | apply Kd.R_alloc | apply Kd.R_drewN | apply Kd.R_drew)); exact HO1025.out) (Kd.R_base ho0) hb); replace HO1028 := Aside0.mk (Kd.R_elder' (by (with_reducible repeat (first | apply Kd.R_alloc | apply Kd.R_drewN | apply Kd.R_drew)); exact HO1028.out) (Kd.R_base ho0) hb); replace HO1035 := Aside0.mk (Kd.R_elder' (by (with_reducible repeat (first | apply Kd.R_alloc | apply Kd.R_drewN | apply Kd.R_drew)); exact HO1035.out) (Kd.R_base ho0) hb); replace HO1037 := Aside0.mk (Kd.R_elder' (by (with_reducible repeat (first | apply Kd.R_alloc | apply Kd.R_drewN | apply Kd.R_drew)); exact HO1037.out) (Kd.R_base ho0) hb); replace HO1041 := Aside0.mk (Kd.R_elder' (by (with_reducible repeat (first | apply Kd.R_alloc | apply Kd.R_drewN | apply Kd.R_drew)); exact HO1041.out) (Kd.R_base ho0) hb); replace BK1021 := Aside0.mk (blk_below (g := gb1021) (o := .cells #[.slice Ao59 t1014.length co59] 25 (0, 0)) (by (with_reducible repeat (first | refine blk_drewN ?_ _ | refine blk_drew ?_ | refine blk_alloc ?_ _)); exact BK1021.out) hb); replace BK1022 := Aside0.mk (blk_below (g := gb1022) (o := .cells #[.slice Ao62 t1017.length co62] 25 (0, 0)) (by (with_reducible repeat (first | refine blk_drewN ?_ _ | refine blk_drew ?_ | refine blk_alloc ?_ _)); exact BK1022.out) hb); replace HB := Aside0.mk (below_step (by repeat (first | (with_reducible first | exact HB.out | apply below_alloc | apply pw_below_drewN | apply below_drew1 | refine below_set ?_ GE1021.out | refine below_set ?_ GE1022.out) | exact HB.out)) hb); obtain ⟨Ao76, co76, eo76⟩ := Kd.R_slice HO1045.out; subst eo76; obtain ⟨Ao77, co77, eo77⟩ := Kd.R_slice HO1037.out; subst eo77) | (go_at_call 22; (with_reducible refine (numeraryref02_Cmp.calls k _ _ t1043 _ _ t1033 t1046 _ ?side1 ?side2 ?side3 ?side4 A47.out).mono ?_); (case side1 => exact (Kd.R_reads' HO1045.out).2.2); (case side2 => exact (Kd.R_reads' HO1045.out).2.1); (case side3 => exact (Kd.R_reads' HO1037.out).2.2); (case side4 => exact (Kd.R_reads' HO1037.out).2.1); rintro e w' ⟨rfl, ⟨nd, rfl⟩⟩))
  go_ret
  exact ⟨rfl, by repeat (first | (with_reducible first | exact HB.out | apply below_alloc | apply pw_below_drewN | apply below_drew1 | refine below_set ?_ GE1021.out | refine below_set ?_ GE1022.out) | exact HB.out)⟩
/-- THE ONE PURE STATEMENT of numerarylaw04_QuotDivides: yours. -/
def numerarylaw04_QuotDivides.Pure : Prop := ∀ (l0 : List Int) (l1 : List Int), l0.length ≤ maxLen → l0.length * 4 ≤ 140737488351232 → (∀ x ∈ l0, (Lit.int .u32 x).wf = true) → l1.length ≤ maxLen → l1.length * 4 ≤ 140737488351232 → (∀ x ∈ l1, (Lit.int .u32 x).wf = true) → ∃ k, numerarylaw04_QuotDivides.f k l0 l1 = some true
theorem numerarylaw04_QuotDivides.walk (P : numerarylaw04_QuotDivides.Pure) (a0 : Option Addr) (len0 cap0 : Nat) (z0 : List Int) (a1 : Option Addr) (len1 cap1 : Nat) (z1 : List Int) (w : World) (w0 : (a0 = none ∧ len0 = 0 ∧ cap0 = 0 ∧ z0 = []) ∨ ∃ x, a0 = some x ∧ len0 ≤ cap0 ∧ cap0 ≤ maxLen ∧ z0.length = cap0 ∧ (∀ i, i < z0.length → w.cell? (x.add i) = some (.int .u32 (z0.getD i 0))) ∧ ∀ n ∈ z0, (Lit.int .u32 n).wf = true) (y0 : len0 * 4 ≤ 140737488351232) (w1 : (a1 = none ∧ len1 = 0 ∧ cap1 = 0 ∧ z1 = []) ∨ ∃ x, a1 = some x ∧ len1 ≤ cap1 ∧ cap1 ≤ maxLen ∧ z1.length = cap1 ∧ (∀ i, i < z1.length → w.cell? (x.add i) = some (.int .u32 (z1.getD i 0))) ∧ ∀ n ∈ z1, (Lit.int .u32 n).wf = true) (y1 : len1 * 4 ≤ 140737488351232) :
    Calls Try.prog 12 #[.slice a0 len0 cap0, .slice a1 len1 cap1] w fun e w' => e = .returned (.bool true) ∧ Below w.heap.size w w' := by
  obtain ⟨l0, rfl, hr0, hm0, hw0, hc0⟩ := ReadsInt.ofRowC w0
  obtain ⟨l1, rfl, hr1, hm1, hw1, hc1⟩ := ReadsInt.ofRowC w1
  obtain ⟨k, h⟩ := P l0 l1 hm0 y0 hw0 hm1 y1 hw1
  refine (numerarylaw04_QuotDivides.calls k _ _ l0 _ _ l1 true w (Kd.C_of_reads (d := (0 : Int)) (h1 := fun _ => rfl) hr0) hc0 (Kd.C_of_reads (d := (0 : Int)) (h1 := fun _ => rfl) hr1) hc1 h rfl).mono ?_
  rintro e w' ⟨rfl, hd⟩
  exact ⟨rfl, hd⟩

end Go.Proofs.Ytcepdndhkidehaa.PA
end
section
namespace Go.Proofs.Ytcepdndhkidehaa.M
open Go.RowKit Go.Proofs.YtcepdndhkidehaaW.PrintWords Go.Proofs.YtcepdndhkidehaaW.PrintLast Go.Proofs.YtcepdndhkidehaaW.PrintMore
set_option linter.unusedVariables false
set_option linter.unusedSimpArgs false

/-! ### rounds -/
theorem ev_pos {α : Type} {c : Prop} [Decidable c] (h : c) {a b : Nat → Option α} {r : α} (ha : Ev a r) : Ev (fun k => if c then a k else b k) r := by
  simpa only [if_pos h] using ha
theorem ev_neg {α : Type} {c : Prop} [Decidable c] (h : ¬ c) {a b : Nat → Option α} {r : α} (hb : Ev b r) : Ev (fun k => if c then a k else b k) r := by
  simpa only [if_neg h] using hb
theorem ev_some {α β : Type} {o : Option α} {a : α} {f : Nat → α → Option β} {r : β} (h : o = some a) (k : Ev (fun n => f n a) r) : Ev (fun n => o.bind (f n)) r := by
  subst h; exact k
theorem ev_now {α : Type} {a r : α} (h : a = r) : Ev (fun _ => some a) r := by
  subst h; exact Ev.now _

/-! ### lists of naturals as lists of integers -/
def nl (l : List Nat) : List Int := l.map Int.ofNat
def gd (l : List Nat) (i : Nat) : Nat := l.getD i 0
theorem nl_length (l : List Nat) : (nl l).length = l.length := List.length_map _
theorem nl_nil : nl [] = [] := rfl
theorem nl_cons (x : Nat) (l : List Nat) : nl (x :: l) = (x : Int) :: nl l := rfl
theorem nl_append (a b : List Nat) : nl (a ++ b) = nl a ++ nl b := List.map_append
theorem nl_take (l : List Nat) (n : Nat) : (nl l).take n = nl (l.take n) := by unfold nl; rw [List.map_take]
theorem nl_drop (l : List Nat) (n : Nat) : (nl l).drop n = nl (l.drop n) := by unfold nl; rw [List.map_drop]
theorem nl_set (l : List Nat) (i v : Nat) : (nl l).set i (v : Int) = nl (l.set i v) := by unfold nl; rw [List.map_set]; rfl
theorem nl_replicate (n v : Nat) : List.replicate n (v : Int) = nl (List.replicate n v) := by unfold nl; rw [List.map_replicate]; rfl
theorem rd_nl (l : List Nat) (i : Nat) : rd (nl l) (i : Int) = (gd l i : Nat) := by
  unfold rd gd nl
  rw [Int.toNat_natCast, List.getD_eq_getElem?_getD, List.getD_eq_getElem?_getD, List.getElem?_map]
  cases l[i]? <;> rfl
theorem toNl {l : List Int} (h : ∀ x ∈ l, 0 ≤ x) : l = nl (l.map Int.toNat) := by
  induction l with
  | nil => rfl
  | cons x l ih =>
    rw [List.map_cons, nl_cons, ← ih (fun y hy => h y (List.mem_cons_of_mem _ hy)), Int.toNat_of_nonneg (h x List.mem_cons_self)]
theorem gd_ge {l : List Nat} {i : Nat} (h : l.length ≤ i) : gd l i = 0 := by unfold gd; rw [List.getD_eq_getElem?_getD, List.getElem?_eq_none h]; rfl
theorem gd_cons_zero (x : Nat) (l : List Nat) : gd (x :: l) 0 = x := rfl
theorem gd_cons_succ (x : Nat) (l : List Nat) (i : Nat) : gd (x :: l) (i + 1) = gd l i := rfl
theorem gd_append_right (a b : List Nat) (i : Nat) : gd (a ++ b) (a.length + i) = gd b i := by
  unfold gd; rw [List.getD_eq_getElem?_getD, List.getD_eq_getElem?_getD, List.getElem?_append_right (by omega), Nat.add_sub_cancel_left]
theorem gd_append_left (a b : List Nat) (i : Nat) (h : i < a.length) : gd (a ++ b) i = gd a i := by
  unfold gd; rw [List.getD_eq_getElem?_getD, List.getD_eq_getElem?_getD, List.getElem?_append_left h]
theorem gd_drop (l : List Nat) (n i : Nat) : gd (l.drop n) i = gd l (n + i) := by
  unfold gd; rw [List.getD_eq_getElem?_getD, List.getD_eq_getElem?_getD, List.getElem?_drop]
theorem gd_set (l : List Nat) (i j v : Nat) (h : i < l.length) : gd (l.set i v) j = if i = j then v else gd l j := by
  unfold gd; rw [List.getD_eq_getElem?_getD, List.getD_eq_getElem?_getD, List.getElem?_set]
  by_cases e : i = j
  · subst e; simp [h]
  · simp [e]
theorem gd_replicate (n i : Nat) : gd (List.replicate n 0) i = 0 := by
  unfold gd; rw [List.getD_eq_getElem?_getD, List.getElem?_replicate]; split <;> rfl
theorem take_succ (l : List Nat) (i : Nat) (h : i < l.length) : l.take (i + 1) = l.take i ++ [gd l i] := by
  rw [List.take_succ_eq_append_getElem h]; unfold gd; rw [List.getD_eq_getElem?_getD, List.getElem?_eq_getElem h]; rfl
theorem drop_cons (l : List Nat) (i : Nat) (h : i < l.length) : l.drop i = gd l i :: l.drop (i + 1) := by
  rw [List.drop_eq_getElem_cons h]; unfold gd; rw [List.getD_eq_getElem?_getD, List.getElem?_eq_getElem h]; rfl
theorem take_set_succ (l : List Nat) (i v : Nat) (h : i < l.length) : (l.set i v).take (i + 1) = l.take i ++ [v] := by
  rw [take_succ _ _ (by rw [List.length_set]; exact h), gd_set _ _ _ _ h, if_pos rfl, List.take_set_of_le (Nat.le_refl _)]
theorem drop_set_succ (l : List Nat) (i v : Nat) : (l.set i v).drop (i + 1) = l.drop (i + 1) := by
  rw [List.drop_set_of_lt (Nat.lt_succ_self _)]

/-! ### the value of digits -/
def val (B : Nat) : List Nat → Nat
  | [] => 0
  | x :: l => x + B * val B l
def Dg (B : Nat) (l : List Nat) : Prop := ∀ x ∈ l, x < B
theorem Dg.nil (B : Nat) : Dg B [] := fun x h => by cases h
theorem Dg.cons {B x : Nat} {l : List Nat} (hx : x < B) (h : Dg B l) : Dg B (x :: l) := fun y hy => by
  rcases List.mem_cons.mp hy with rfl | hy
  · exact hx
  · exact h y hy
theorem Dg.head {B x : Nat} {l : List Nat} (h : Dg B (x :: l)) : x < B := h x List.mem_cons_self
theorem Dg.tail {B x : Nat} {l : List Nat} (h : Dg B (x :: l)) : Dg B l := fun y hy => h y (List.mem_cons_of_mem _ hy)
theorem Dg.append {B : Nat} {a b : List Nat} (h : Dg B a) (k : Dg B b) : Dg B (a ++ b) := fun x hx => by
  rcases List.mem_append.mp hx with hx | hx
  · exact h x hx
  · exact k x hx
theorem Dg.take {B : Nat} {l : List Nat} (h : Dg B l) (n : Nat) : Dg B (l.take n) := fun x hx => h x (List.mem_of_mem_take hx)
theorem Dg.drop {B : Nat} {l : List Nat} (h : Dg B l) (n : Nat) : Dg B (l.drop n) := fun x hx => h x (List.mem_of_mem_drop hx)
theorem Dg.set {B : Nat} {l : List Nat} (h : Dg B l) (i : Nat) {v : Nat} (hv : v < B) : Dg B (l.set i v) := fun x hx => by
  rcases List.mem_or_eq_of_mem_set hx with hx | rfl
  · exact h x hx
  · exact hv
theorem Dg.replicate {B : Nat} (hB : 0 < B) (n : Nat) : Dg B (List.replicate n 0) := fun x hx => by
  rw [List.eq_of_mem_replicate hx]; exact hB
theorem Dg.gd {B : Nat} {l : List Nat} (h : Dg B l) (hB : 0 < B) (i : Nat) : gd l i < B := by
  unfold M.gd; rw [List.getD_eq_getElem?_getD]
  rcases Nat.lt_or_ge i l.length with hi | hi
  · rw [List.getElem?_eq_getElem hi]; exact h _ (List.getElem_mem hi)
  · rw [List.getElem?_eq_none hi]; exact hB
theorem val_append (B : Nat) (a b : List Nat) : val B (a ++ b) = val B a + B ^ a.length * val B b := by
  induction a with
  | nil => simp [val]
  | cons x a ih => rw [List.cons_append, val, ih, val, List.length_cons, Nat.pow_succ]; grind
theorem val_lt {B : Nat} {l : List Nat} (hB : 0 < B) (h : Dg B l) : val B l < B ^ l.length := by
  induction l with
  | nil => simp [val]
  | cons x l ih =>
    have h1 := ih h.tail
    have h2 := h.head
    rw [val, List.length_cons, Nat.pow_succ]
    have := Nat.mul_le_mul_left B (Nat.succ_le_of_lt h1)
    rw [Nat.succ_eq_add_one, Nat.mul_add] at this
    grind
theorem val_replicate (B n : Nat) : val B (List.replicate n 0) = 0 := by
  induction n with
  | zero => rfl
  | succ n ih => rw [List.replicate_succ, val, ih]; rfl
theorem val_snoc (B : Nat) (l : List Nat) (v : Nat) : val B (l ++ [v]) = val B l + B ^ l.length * v := by rw [val_append]; simp [val]
theorem val_take_succ (B : Nat) (l : List Nat) (i : Nat) : val B (l.take (i + 1)) = val B (l.take i) + B ^ i * gd l i := by
  rcases Nat.lt_or_ge i l.length with hi | hi
  · rw [take_succ l i hi, val_snoc, List.length_take, Nat.min_eq_left (Nat.le_of_lt hi)]
  · rw [gd_ge hi, List.take_of_length_le (by omega), List.take_of_length_le hi, Nat.mul_zero, Nat.add_zero]
theorem val_set (B : Nat) (l : List Nat) (i v : Nat) (h : i < l.length) : val B (l.set i v) + B ^ i * gd l i = val B l + B ^ i * v := by
  induction l generalizing i with
  | nil => simp at h
  | cons x l ih =>
    cases i with
    | zero => rw [List.set_cons_zero, val, val, gd_cons_zero]; grind
    | succ i =>
      have := ih i (by simpa using h)
      rw [List.set_cons_succ, val, val, gd_cons_succ, Nat.pow_succ]; grind
theorem val_split (B : Nat) (l : List Nat) (i : Nat) (h : i ≤ l.length) : val B l = val B (l.take i) + B ^ i * val B (l.drop i) := by
  have := val_append B (l.take i) (l.drop i)
  rw [List.take_append_drop, List.length_take, Nat.min_eq_left h] at this
  exact this
theorem val_drop (B : Nat) (l : List Nat) (i : Nat) (h : i < l.length) : val B (l.drop i) = gd l i + B * val B (l.drop (i + 1)) := by
  rw [drop_cons l i h, val]

/-! ### a number's digits -/
def dgf (B : Nat) : Nat → Nat → List Nat
  | 0, _ => []
  | f + 1, n => if n = 0 then [] else n % B :: dgf B f (n / B)
def dg (B n : Nat) : List Nat := dgf B n n
theorem dgf_more (B : Nat) (hB : 2 ≤ B) : ∀ f n, n ≤ f → dgf B f n = dgf B n n := by
  intro f
  induction f using Nat.strongRecOn with
  | _ f ih =>
    intro n hn
    cases f with
    | zero => have : n = 0 := by omega
              subst this; rfl
    | succ f =>
      cases n with
      | zero => simp [dgf]
      | succ n =>
        have hlt : (n + 1) / B ≤ n := Nat.le_of_lt_succ (Nat.div_lt_self (Nat.succ_pos n) hB)
        rw [dgf, dgf, if_neg (by omega), if_neg (by omega), ih f (by omega) _ (Nat.le_trans hlt (by omega)), ih n (by omega) _ hlt]
theorem dg_zero (B : Nat) : dg B 0 = [] := rfl
theorem dg_pos {B n : Nat} (hB : 2 ≤ B) (h : 0 < n) : dg B n = n % B :: dg B (n / B) := by
  cases n with
  | zero => omega
  | succ n =>
    have hlt : (n + 1) / B ≤ n := Nat.le_of_lt_succ (Nat.div_lt_self (Nat.succ_pos n) hB)
    unfold dg
    rw [dgf, if_neg (by omega), dgf_more B hB _ _ hlt]
theorem val_dg {B : Nat} (hB : 2 ≤ B) (n : Nat) : val B (dg B n) = n := by
  induction n using Nat.strongRecOn with
  | _ n ih =>
    rcases Nat.eq_zero_or_pos n with rfl | hn
    · rfl
    · rw [dg_pos hB hn, val, ih _ (Nat.div_lt_self hn hB)]
      exact Nat.mod_add_div n B
theorem Dg_dg {B : Nat} (hB : 2 ≤ B) (n : Nat) : Dg B (dg B n) := by
  induction n using Nat.strongRecOn with
  | _ n ih =>
    rcases Nat.eq_zero_or_pos n with rfl | hn
    · exact Dg.nil _
    · rw [dg_pos hB hn]
      exact Dg.cons (Nat.mod_lt _ (by omega)) (ih _ (Nat.div_lt_self hn hB))
/-- Without noughts at the end. -/
def trim : List Nat → List Nat
  | [] => []
  | x :: l => if trim l = [] ∧ x = 0 then [] else x :: trim l
theorem dg_val {B : Nat} (hB : 2 ≤ B) {l : List Nat} (h : Dg B l) : dg B (val B l) = trim l := by
  induction l with
  | nil => rfl
  | cons x l ih =>
    have hx := h.head
    have ih := ih h.tail
    rw [val, trim]
    by_cases hz : x + B * val B l = 0
    · have h1 : x = 0 := by omega
      have h2 : val B l = 0 := by
        have : B * val B l = 0 := by omega
        rcases Nat.mul_eq_zero.mp this with h | h
        · omega
        · exact h
      rw [hz, if_pos ⟨by rw [← ih, h2]; rfl, h1⟩]; rfl
    · rw [dg_pos hB (by omega), if_neg, Nat.add_mul_mod_self_left, Nat.mod_eq_of_lt hx, Nat.add_mul_div_left _ _ (by omega), Nat.div_eq_of_lt hx, Nat.zero_add, ih]
      rintro ⟨h1, h2⟩
      rw [← ih] at h1
      have : val B l = 0 := by
        have := val_dg hB (val B l)
        rw [h1] at this
        exact this.symm
      rw [this, h2] at hz
      simp at hz
theorem trim_snoc_pos (l : List Nat) (x : Nat) (hx : x ≠ 0) : trim (l ++ [x]) = l ++ [x] := by
  induction l with
  | nil => simp [trim, hx]
  | cons y l ih => rw [List.cons_append, trim, ih, if_neg]; simp
theorem trim_snoc_zero (l : List Nat) : trim (l ++ [0]) = trim l := by
  induction l with
  | nil => simp [trim]
  | cons y l ih => rw [List.cons_append, trim, ih, trim]
theorem trim_take {l : List Nat} {n : Nat} (hn : n ≤ l.length) (h : n = 0 ∨ gd l (n - 1) ≠ 0) (hz : ∀ i, n ≤ i → gd l i = 0) : trim l = l.take n := by
  obtain ⟨d, hd⟩ : ∃ d, l.length = n + d := ⟨l.length - n, by omega⟩
  induction d generalizing l with
  | zero =>
    rw [List.take_of_length_le (by omega)]
    rcases List.eq_nil_or_concat l with rfl | ⟨l', x, rfl⟩
    · rfl
    · rw [List.concat_eq_append] at *
      refine trim_snoc_pos _ _ ?_
      simp only [List.length_append, List.length_cons, List.length_nil] at hd
      rcases h with h | h
      · omega
      · have h1 := gd_append_right l' [x] 0
        rw [gd_cons_zero] at h1
        rw [← h1]
        have : n - 1 = l'.length + 0 := by omega
        rw [← this]; exact h
  | succ d ih =>
    rcases List.eq_nil_or_concat l with rfl | ⟨l', x, rfl⟩
    · simp at hd
    · rw [List.concat_eq_append] at *
      simp only [List.length_append, List.length_cons, List.length_nil] at hd
      have hx : x = 0 := by
        have h1 := gd_append_right l' [x] 0
        rw [gd_cons_zero] at h1
        rw [← h1]
        exact hz _ (by omega)
      subst hx
      rw [trim_snoc_zero, List.take_append_of_le_length (by omega)]
      refine ih (by omega) ?_ ?_ (by omega)
      · rcases h with h | h
        · exact .inl h
        · rcases Nat.eq_zero_or_pos n with h0 | h0
          · exact .inl h0
          · exact .inr (by rw [gd_append_left _ _ _ (by omega)] at h; exact h)
      · intro i hi
        rcases Nat.lt_or_ge i l'.length with h1 | h1
        · have := hz i hi
          rw [gd_append_left _ _ _ h1] at this
          exact this
        · exact gd_ge h1
/-! ### how many digits -/
theorem dg_len {B : Nat} (hB : 2 ≤ B) (n k : Nat) : (dg B n).length ≤ k ↔ n < B ^ k := by
  induction k generalizing n with
  | zero =>
    rcases Nat.eq_zero_or_pos n with rfl | hn
    · simp [dg_zero]
    · rw [dg_pos hB hn]; simp; omega
  | succ k ih =>
    rcases Nat.eq_zero_or_pos n with rfl | hn
    · simp [dg_zero]; exact Nat.pow_pos (by omega)
    · rw [dg_pos hB hn, List.length_cons, Nat.add_le_add_iff_right, ih, Nat.pow_succ, Nat.div_lt_iff_lt_mul (by omega)]
theorem dg_len_mono {B : Nat} (hB : 2 ≤ B) {m n : Nat} (h : m ≤ n) : (dg B m).length ≤ (dg B n).length :=
  (dg_len hB m _).mpr (Nat.lt_of_le_of_lt h ((dg_len hB n _).mp (Nat.le_refl _)))
theorem dg_lt {B : Nat} (hB : 2 ≤ B) (n : Nat) : n < B ^ (dg B n).length := (dg_len hB n _).mp (Nat.le_refl _)
theorem dg_ge {B : Nat} (hB : 2 ≤ B) {n : Nat} (hn : 0 < n) : B ^ ((dg B n).length - 1) ≤ n := by
  rcases Nat.lt_or_ge n (B ^ ((dg B n).length - 1)) with h | h
  · have := (dg_len hB n _).mpr h
    have h0 : 0 < (dg B n).length := by rw [dg_pos hB hn]; simp
    omega
  · exact h
theorem dg_inj {B : Nat} (hB : 2 ≤ B) {m n : Nat} (h : dg B m = dg B n) : m = n := by rw [← val_dg hB m, h, val_dg hB]
theorem dg_last {B : Nat} (hB : 2 ≤ B) {n : Nat} (hn : 0 < n) : 0 < gd (dg B n) ((dg B n).length - 1) := by
  rcases Nat.eq_zero_or_pos (gd (dg B n) ((dg B n).length - 1)) with h | h
  · have h0 : 0 < (dg B n).length := by rw [dg_pos hB hn]; simp
    have h1 := val_split B (dg B n) ((dg B n).length - 1) (by omega)
    rw [val_drop B _ _ (by omega), h, List.drop_of_length_le (by omega), val_dg hB] at h1
    have h2 := val_lt (B := B) (by omega) ((Dg_dg hB n).take ((dg B n).length - 1))
    rw [List.length_take, Nat.min_eq_left (by omega)] at h2
    have h3 := dg_ge hB hn
    simp only [val, Nat.mul_zero, Nat.add_zero] at h1
    omega
  · exact h
/-- From the top: where two lists of one length first differ, the lesser digit is the lesser number's. -/
theorem val_cmp {B : Nat} (hB : 0 < B) {a b : List Nat} (ha : Dg B a) (hb : Dg B b) (hl : a.length = b.length) {i : Nat} (hi : i < a.length) (he : a.drop (i + 1) = b.drop (i + 1)) (h : gd a i < gd b i) : val B a < val B b := by
  have h1 := val_split B a i (by omega)
  have h2 := val_split B b i (by omega)
  rw [val_drop B a i hi] at h1
  rw [val_drop B b i (by omega), ← he] at h2
  have h3 := val_lt hB (ha.take i)
  rw [List.length_take, Nat.min_eq_left (by omega)] at h3
  have h4 := Nat.mul_le_mul_left (B ^ i) (Nat.succ_le_of_lt h)
  rw [Nat.succ_eq_add_one, Nat.mul_add] at h4
  grind
theorem len_cmp {B : Nat} (hB : 2 ≤ B) {m n : Nat} (h : (dg B m).length < (dg B n).length) : m < n := by
  have h1 := dg_lt hB m
  have h2 : 0 < n := by
    rcases Nat.eq_zero_or_pos n with rfl | hn
    · simp [dg_zero] at h
    · exact hn
  exact Nat.lt_of_lt_of_le h1 (Nat.le_trans (Nat.pow_le_pow_right (by omega) (by omega)) (dg_ge hB h2))

/-! ### machine numbers -/
theorem wrap_id {x : Int} (h0 : -9223372036854775808 ≤ x) (h1 : x ≤ 9223372036854775807) : wrap64 x = x := by unfold wrap64; omega
theorem wrap_nat {a : Nat} (h : a ≤ 4611686018427387904) : wrap64 (a : Int) = (a : Int) := by rw [wrap_id] <;> omega
theorem wrap_add {a b : Nat} (h : a + b ≤ 4611686018427387904) : wrap64 ((a : Int) + (b : Int)) = ((a + b : Nat) : Int) := by rw [wrap_id] <;> omega
theorem wrap_mul {a b : Nat} (h : a * b ≤ 4611686018427387904) : wrap64 ((a : Int) * (b : Int)) = ((a * b : Nat) : Int) := by rw [show (a : Int) * (b : Int) = ((a * b : Nat) : Int) from (Int.natCast_mul a b).symm, wrap_nat h]
theorem tdiv10 (n : Nat) : Int.tdiv (n : Int) 10 = ((n / 10 : Nat) : Int) := by rw [Int.tdiv_eq_ediv_of_nonneg (by omega)]; omega
theorem tmod10 (n : Nat) : Int.tmod (n : Int) 10 = ((n % 10 : Nat) : Int) := by rw [Int.tmod_eq_emod_of_nonneg (by omega)]; omega
theorem nl_snoc (l : List Nat) (v : Nat) : nl l ++ [(v : Int)] = nl (l ++ [v]) := by rw [nl_append]; rfl
theorem u64_def (x : Int) : IntKind.u64.wrap x = x % 18446744073709551616 := by
  unfold IntKind.wrap
  simp [IntKind.signed, IntKind.bits]
theorem u64_id {x : Int} (h0 : 0 ≤ x) (h1 : x < 18446744073709551616) : IntKind.u64.wrap x = x := by rw [u64_def]; omega
end Go.Proofs.Ytcepdndhkidehaa.M
end
