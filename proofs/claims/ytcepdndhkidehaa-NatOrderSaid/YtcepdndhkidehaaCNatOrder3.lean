/- Of every three numbers of up to thirty limbs: what is below one that is below another one is below that; as many added to both change nothing of how they stand; the one with more bits is greater. -/
import Derived.Below
import Derived.ChangeOld
import Derived.OpenShut
import Derived.ProofKit
import Derived.ShutString
import Derived.SizedLaws
import Derived.Test.YtcepdndhkidehaaCNatOrderWSized
import Derived.Test.YtcepdndhkidehaaRows
import Derived.WalkKit
import Derived.Test.YtcepdndhkidehaaCNatOrder0
import Derived.Test.YtcepdndhkidehaaCNatOrder1
import Derived.Test.YtcepdndhkidehaaCNatOrder2
section
namespace Go.Proofs.Ytcepdndhkidehaa.PA
open Go.RowKit Go.Proofs.YtcepdndhkidehaaW.PrintWords Go.Proofs.YtcepdndhkidehaaW.PrintLast Go.Proofs.YtcepdndhkidehaaW.PrintMore
attribute [local go_sem] max2_int min2_int max_two min_two max_three min_three max_four min_four   -- for this text's walks alone
set_option linter.unusedVariables false
set_option linter.unusedSimpArgs false

/-! ### numeraryref02_Times: function 20 -/
def numeraryref02_Times.l0 : Nat → List Int → Int → List Int → Int → Int → Option (List Int)
  | 0, _, _, _, _, _ => none
  | k + 1, x0, x1, x5, x6, x7 => if x7 < (x0.length : Int) then ((numeraryref02_at.f x0 x7).bind fun t130 => (if x5.length < 17592186044416 then (numeraryref02_Times.l0 k x0 x1 (x5 ++ [Int.tmod (wrap64 (x6 + (wrap64 (t130 * x1)))) 10]) (wrap64 (Int.tdiv (wrap64 (x6 + (wrap64 (t130 * x1)))) 10)) (wrap64 (x7 + 1))) else (none))) else (if x6 > 0 then ((numeraryref02_at.f x0 x7).bind fun t134 => (if x5.length < 17592186044416 then (numeraryref02_Times.l0 k x0 x1 (x5 ++ [Int.tmod (wrap64 (x6 + (wrap64 (t134 * x1)))) 10]) (wrap64 (Int.tdiv (wrap64 (x6 + (wrap64 (t134 * x1)))) 10)) (wrap64 (x7 + 1))) else (none))) else ((numeraryref02_trim.f k x5).bind fun t138 => (some t138)))
def numeraryref02_Times.f (k : Nat) (l0 : List Int) (a1 : Int) : Option (List Int) := numeraryref02_Times.l0 k l0 a1 ([] : List Int) 0 0
theorem numeraryref02_Times.mono_l : ∀ k, (∀ y0 y1 y2 y3 y4, LeO (numeraryref02_Times.l0 k y0 y1 y2 y3 y4) (numeraryref02_Times.l0 (k + 1) y0 y1 y2 y3 y4))
  | 0 => fun _ _ _ _ _ r h => by simp [numeraryref02_Times.l0] at h
  | k + 1 => by
    have ih0 := numeraryref02_Times.mono_l k
    intro y0 y1 y2 y3 y4
    unfold numeraryref02_Times.l0
    repeat' first
    | (with_reducible exact ih0 _ _ _ _ _)
    | (with_reducible exact numeraryref02_trim.mono _ _)
    | (with_reducible exact LeO.refl _)
    | (with_reducible exact LeO.none _)
    | (with_reducible refine LeO.ite ?_ ?_)
    | (with_reducible refine LeO.bind ?_ (fun _ => ?_))
    | exact ih0 _ _ _ _ _
    | exact numeraryref02_trim.mono _ _
    | exact LeO.none _
    | refine LeO.ite ?_ ?_
    | refine LeO.bind ?_ (fun _ => ?_)
theorem numeraryref02_Times.mono : ∀ a0 a1 k, LeO (numeraryref02_Times.f k a0 a1) (numeraryref02_Times.f (k + 1) a0 a1) := by
  intro a0 a1 k
  have ih0 := numeraryref02_Times.mono_l k
  unfold numeraryref02_Times.f
  repeat' first
      | (with_reducible exact ih0 _ _ _ _ _)
      | (with_reducible exact numeraryref02_trim.mono _ _)
      | (with_reducible exact LeO.refl _)
      | (with_reducible exact LeO.none _)
      | (with_reducible refine LeO.ite ?_ ?_)
      | (with_reducible refine LeO.bind ?_ (fun _ => ?_))
set_option maxHeartbeats 8000000 in
set_option maxRecDepth 100000 in
theorem numeraryref02_Times.calls (k : Nat) (A0 : Option Addr) (c0 : Nat) (l0 : List Int) (a1 : Int) (r : List Int) (w : World) (hr0 : Kd.C (Kd.int .i64) w A0 l0.length l0) (hc0 : l0.length ≤ c0) (h : numeraryref02_Times.f k l0 a1 = some r) :
    Calls Try.prog 20 #[.slice A0 l0.length c0, .int .i64 a1] w fun e w' => ∃ v0_ : Value, e = .returned (v0_) ∧ Kd.R (Kd.int .i64) 3 w' w.heap.size (fun _ => True) v0_ r ∧ Below w.heap.size w w' := by
  have HR0 := Aside0.mk hr0
  have HC0 := Aside0.mk hc0
  clear hr0 hc0
  have HB := Aside0.mk (Below.refl w.heap.size w)
  have H : (numeraryref02_Times.l0 k l0 a1 ([] : List Int) 0 0) = some r := h
  clear h
  have H' := Aside0.mk H
  clear H
  go_enter Try.func20, Try.ntmps20
  go_wp2
  (try simp only [Act.put, List.setIfInBounds_toArray, List.set_cons_zero, List.set_cons_succ])
  go_loopg [5, 6, 7] k (fun kq v5 v6 v7 w' => ∃ (x5_1 : List Int) (x6_1 : Int) (x7_1 : Int), v6 = .int .i64 x6_1 ∧ v7 = .int .i64 x7_1 ∧ Aside0 (numeraryref02_Times.l0 kq l0 a1 x5_1 x6_1 x7_1 = some r) ∧ Aside0 (kq ≤ k) ∧ Aside0 (Kd.R (Kd.int .i64) 3 w' w.heap.size (fun _ => True) v5 x5_1) ∧ Aside0 (Below w.heap.size w w'))
  case atStart => exact ⟨(([] : List Int)), (0), (0), rfl, rfl, H', ⟨Nat.le_refl _⟩, ⟨by first | exact Kd.R_nil _ _ _ _ _ | exact Kd.N_nil _ _ _ _ _ | exact Kd.V_nil _ _ _ _ _ | exact Kd.Q_nil _ _ _ _ _ | exact Kd.S_nil _ _ _ _ _⟩, ⟨by repeat (first | (with_reducible first | exact HB.out | apply below_alloc | apply pw_below_drewN | apply below_drew1) | exact HB.out)⟩⟩
  case round =>
    clear H'
    try clear c2
    try clear p2
    obtain ⟨x5_1, x6_1, x7_1, rfl, rfl, HA, HK1, HO_5, HB⟩ := hrel
    cases gk with
    | zero => exact absurd HA.out (by simp [numeraryref02_Times.l0])
    | succ k1 =>
      have H := HA.out
      clear HA
      simp only [numeraryref02_Times.l0] at H
      by_cases c3 : x7_1 < (l0.length : Int)
      · rw [if_pos c3] at H
        have c3b0 : decide (x7_1 < (l0.length : Int)) = true := decide_eq_true c3
        clear c3
        replace H := Option.bind_eq_some_iff.mp H
        obtain ⟨t130, A40, H⟩ := H
        have A4 := Aside0.mk A40
        clear A40
        by_cases c5 : x5_1.length < 17592186044416
        rotate_left
        · rw [if_neg c5] at H
          exact absurd H (by simp)
        rw [if_pos c5] at H
        have LMc5 := Aside0.mk c5
        clear c5
        obtain ⟨y131, hy131⟩ : ∃ y_ : List Int, y_ = (x5_1 ++ [Int.tmod (wrap64 (x6_1 + (wrap64 (t130 * a1)))) 10]) := ⟨_, rfl⟩
        replace H : (numeraryref02_Times.l0 k1 l0 a1 y131 (wrap64 (Int.tdiv (wrap64 (x6_1 + (wrap64 (t130 * a1)))) 10)) (wrap64 (x7_1 + 1))) = some r := by first | (rw [hy131]; with_reducible exact H) | (have H2_ := (Option.bind_some _ _).symm.trans H; rw [hy131]; with_reducible exact H2_) | (have H2_ := (Option.bind_some _ _).symm.trans H; with_reducible exact H2_) | with_reducible exact H | (rw [hy131]; exact H) | exact H
        have Ny131 := Aside0.mk hy131
        clear hy131
        have H' := Aside0.mk H
        clear H
        go_wp2_with (first | ((with_reducible refine gate_callee (f := 49) rfl ?_); refine goesL_ (some 21) rfl rfl Try.func49 (by kernel_rfl) rfl #[.slice A0 l0.length c0, .int .i64 x7_1] rfl (by (try simp only [List.map_toArray, List.map_cons, List.map_nil]); first | done | rfl | (simp only [List.length_drop, List.length_take]; rfl)) ?_; (with_reducible refine (numeraryref02_at.calls _ _ l0 x7_1 t130 _ ?side1 ?side2 A4.out).mono ?_); (case side1 => repeat (first | exact (Kd.C_below HR0.out HB.out) | (with_reducible refine Kd.C_alloc ?_ _) | (with_reducible refine Kd.C_drewN ?_ _) | (with_reducible refine Kd.C_drew ?_))); (case side2 => exact HC0.out); rintro e w' ⟨rfl, ⟨nd, rfl⟩⟩; refine ⟨_, rfl, ?_⟩) | ((with_reducible refine gate_builtin (b := .append) (xs := #[.tmp 27, .tmp 30]) rfl ?_); at_builtin; refine Kd.R_append (Kd.int .i64) (w0 := w) w.heap.size rfl (.tmp 27) (.tmp 30) 28 3 (.int .i64 0) 8 rfl Try.underlying28 info3 rfl (by decide) (by omega) u5 x5_1 (Int.tmod (wrap64 (x6_1 + (wrap64 (t130 * a1)))) 10) [.int .i64 (Int.tmod (wrap64 (x6_1 + (wrap64 (t130 * a1)))) 10)] (fun _ => True) (fun _ => False) rfl rfl ?aP (fun _ hk => hk.elim) ?aF ?aO ?aB ?aS ?aL ?_; (case aP => exact rfl); (case aB => exact (by repeat (first | (with_reducible first | exact HB.out | apply below_alloc | apply pw_below_drewN | apply below_drew1) | exact HB.out))); (case aF => exact (fun _ _ => trivial)); (case aO => exact (by (with_reducible repeat (first | apply Kd.R_alloc | apply Kd.R_drewN | apply Kd.R_drew)); exact HO_5.out)); (case aS => exact (below_size (by repeat (first | (with_reducible first | exact HB.out | apply below_alloc | apply pw_below_drewN | apply below_drew1) | exact HB.out)))); (case aL => have := LMc5.out; omega); intro v132 w6 ho hb hg hat; rw [← Ny131.out] at ho; have n0_ := Aside0.mk (hb); have n1_ := Aside0.mk (ho); clear HB; clear HO_5; have HB := n0_; have HO133 := n1_; clear n0_ n1_; clear ho hb hg hat))
        go_roundg k1
        case measure => have := HK1.out; omega
        case rel => exact ⟨(y131), (wrap64 (Int.tdiv (wrap64 (x6_1 + (wrap64 (t130 * a1)))) 10)), (wrap64 (x7_1 + 1)), rfl, rfl, H', ⟨by have := HK1.out; omega⟩, ⟨by (with_reducible repeat (first | apply Kd.R_alloc | apply Kd.R_drewN | apply Kd.R_drew)); exact HO133.out⟩, ⟨by repeat (first | (with_reducible first | exact HB.out | apply below_alloc | apply pw_below_drewN | apply below_drew1) | exact HB.out)⟩⟩
      rw [if_neg c3] at H
      have c3b0 : decide (x7_1 < (l0.length : Int)) = false := decide_eq_false c3
      clear c3
      by_cases c7 : x6_1 > 0
      rotate_left
      · rw [if_neg c7] at H
        have c7b0 : decide (0 < x6_1) = false := decide_eq_false c7
        clear c7
        replace H := Option.bind_eq_some_iff.mp H
        obtain ⟨t138, A110, H⟩ := H
        have A11 := Aside0.mk A110
        clear A110
        obtain rfl := Option.some.inj H
        obtain ⟨Ao12, co12, eo12⟩ := Kd.R_slice HO_5.out
        subst eo12
        go_wp2_with (first | ((with_reducible refine gate_callee (f := 50) rfl ?_); refine goesL_ (some 35) rfl rfl Try.func50 (by kernel_rfl) rfl #[.slice Ao12 x5_1.length co12] rfl (by (try simp only [List.map_toArray, List.map_cons, List.map_nil]); first | done | rfl | (simp only [List.length_drop, List.length_take]; rfl)) ?_; (with_reducible refine (numeraryref02_trim.calls k1 (fun k_ => some k_ = (.slice Ao12 x5_1.length co12 : Value).ownBlock) (.slice Ao12 x5_1.length co12) x5_1 t138 w _ ?side1 ?side2 A11.out).mono ?_); (case side1 => repeat (first | (with_reducible first | exact HB.out | apply below_alloc | apply pw_below_drewN | apply below_drew1) | exact HB.out)); (case side2 => exact Kd.R_tight rfl HO_5.out); rintro e w13 ⟨v139, rfl, ho0, hb, hkp⟩; refine ⟨_, rfl, ?_⟩; have n0_ := Aside0.mk (Kd.R_mono (ok' := fun k_ => True) ho0 (fun k_ hk_ => trivial)); have n1_ := Aside0.mk (hb); clear HB; clear HO_5; have HO140 := n0_; have HB := n1_; clear n0_ n1_))
        go_ret
        exact ⟨_, rfl, by (with_reducible repeat (first | apply Kd.R_alloc | apply Kd.R_drewN | apply Kd.R_drew)); exact HO140.out, by repeat (first | (with_reducible first | exact HB.out | apply below_alloc | apply pw_below_drewN | apply below_drew1) | exact HB.out)⟩

      rw [if_pos c7] at H
      have c7b0 : decide (0 < x6_1) = true := decide_eq_true c7
      clear c7
      replace H := Option.bind_eq_some_iff.mp H
      obtain ⟨t134, A80, H⟩ := H
      have A8 := Aside0.mk A80
      clear A80
      by_cases c9 : x5_1.length < 17592186044416
      rotate_left
      · rw [if_neg c9] at H
        exact absurd H (by simp)
      rw [if_pos c9] at H
      have LMc9 := Aside0.mk c9
      clear c9
      obtain ⟨y135, hy135⟩ : ∃ y_ : List Int, y_ = (x5_1 ++ [Int.tmod (wrap64 (x6_1 + (wrap64 (t134 * a1)))) 10]) := ⟨_, rfl⟩
      replace H : (numeraryref02_Times.l0 k1 l0 a1 y135 (wrap64 (Int.tdiv (wrap64 (x6_1 + (wrap64 (t134 * a1)))) 10)) (wrap64 (x7_1 + 1))) = some r := by first | (rw [hy135]; with_reducible exact H) | (have H2_ := (Option.bind_some _ _).symm.trans H; rw [hy135]; with_reducible exact H2_) | (have H2_ := (Option.bind_some _ _).symm.trans H; with_reducible exact H2_) | with_reducible exact H | (rw [hy135]; exact H) | exact H
      have Ny135 := Aside0.mk hy135
      clear hy135
      have H' := Aside0.mk H
      clear H
      go_wp2_with (first | ((with_reducible refine gate_callee (f := 49) rfl ?_); refine goesL_ (some 21) rfl rfl Try.func49 (by kernel_rfl) rfl #[.slice A0 l0.length c0, .int .i64 x7_1] rfl (by (try simp only [List.map_toArray, List.map_cons, List.map_nil]); first | done | rfl | (simp only [List.length_drop, List.length_take]; rfl)) ?_; (with_reducible refine (numeraryref02_at.calls _ _ l0 x7_1 t134 _ ?side1 ?side2 A8.out).mono ?_); (case side1 => repeat (first | exact (Kd.C_below HR0.out HB.out) | (with_reducible refine Kd.C_alloc ?_ _) | (with_reducible refine Kd.C_drewN ?_ _) | (with_reducible refine Kd.C_drew ?_))); (case side2 => exact HC0.out); rintro e w' ⟨rfl, ⟨nd, rfl⟩⟩; refine ⟨_, rfl, ?_⟩) | ((with_reducible refine gate_builtin (b := .append) (xs := #[.tmp 27, .tmp 30]) rfl ?_); at_builtin; refine Kd.R_append (Kd.int .i64) (w0 := w) w.heap.size rfl (.tmp 27) (.tmp 30) 28 3 (.int .i64 0) 8 rfl Try.underlying28 info3 rfl (by decide) (by omega) u5 x5_1 (Int.tmod (wrap64 (x6_1 + (wrap64 (t134 * a1)))) 10) [.int .i64 (Int.tmod (wrap64 (x6_1 + (wrap64 (t134 * a1)))) 10)] (fun _ => True) (fun _ => False) rfl rfl ?aP (fun _ hk => hk.elim) ?aF ?aO ?aB ?aS ?aL ?_; (case aP => exact rfl); (case aB => exact (by repeat (first | (with_reducible first | exact HB.out | apply below_alloc | apply pw_below_drewN | apply below_drew1) | exact HB.out))); (case aF => exact (fun _ _ => trivial)); (case aO => exact (by (with_reducible repeat (first | apply Kd.R_alloc | apply Kd.R_drewN | apply Kd.R_drew)); exact HO_5.out)); (case aS => exact (below_size (by repeat (first | (with_reducible first | exact HB.out | apply below_alloc | apply pw_below_drewN | apply below_drew1) | exact HB.out)))); (case aL => have := LMc9.out; omega); intro v136 w10 ho hb hg hat; rw [← Ny135.out] at ho; have n0_ := Aside0.mk (hb); have n1_ := Aside0.mk (ho); clear HB; clear HO_5; have HB := n0_; have HO137 := n1_; clear n0_ n1_; clear ho hb hg hat))
      go_roundg k1
      case measure => have := HK1.out; omega
      case rel => exact ⟨(y135), (wrap64 (Int.tdiv (wrap64 (x6_1 + (wrap64 (t134 * a1)))) 10)), (wrap64 (x7_1 + 1)), rfl, rfl, H', ⟨by have := HK1.out; omega⟩, ⟨by (with_reducible repeat (first | apply Kd.R_alloc | apply Kd.R_drewN | apply Kd.R_drew)); exact HO137.out⟩, ⟨by repeat (first | (with_reducible first | exact HB.out | apply below_alloc | apply pw_below_drewN | apply below_drew1) | exact HB.out)⟩⟩
end Go.Proofs.Ytcepdndhkidehaa.PA
end
section
namespace Go.Proofs.Ytcepdndhkidehaa.PA
open Go.RowKit Go.Proofs.YtcepdndhkidehaaW.PrintWords Go.Proofs.YtcepdndhkidehaaW.PrintLast Go.Proofs.YtcepdndhkidehaaW.PrintMore
attribute [local go_sem] max2_int min2_int max_two min_two max_three min_three max_four min_four   -- for this text's walks alone
set_option linter.unusedVariables false
set_option linter.unusedSimpArgs false

/-! ### numeraryref02_Of: function 27 -/
def numeraryref02_Of.l0 : Nat → Int → List Int → Option (List Int)
  | 0, _, _ => none
  | k + 1, x0, x3 => if x0 > 0 then (if x3.length < 17592186044416 then (numeraryref02_Of.l0 k (IntKind.u64.wrap (Int.tdiv x0 10)) (x3 ++ [wrap64 (Int.tmod x0 10)])) else (none)) else (some x3)
def numeraryref02_Of.f (k : Nat) (a0 : Int) : Option (List Int) := numeraryref02_Of.l0 k a0 ([] : List Int)
theorem numeraryref02_Of.mono_l : ∀ k, (∀ y0 y1, LeO (numeraryref02_Of.l0 k y0 y1) (numeraryref02_Of.l0 (k + 1) y0 y1))
  | 0 => fun _ _ r h => by simp [numeraryref02_Of.l0] at h
  | k + 1 => by
    have ih0 := numeraryref02_Of.mono_l k
    intro y0 y1
    unfold numeraryref02_Of.l0
    repeat' first
    | (with_reducible exact ih0 _ _)
    | (with_reducible exact LeO.refl _)
    | (with_reducible exact LeO.none _)
    | (with_reducible refine LeO.ite ?_ ?_)
    | (with_reducible refine LeO.bind ?_ (fun _ => ?_))
    | exact ih0 _ _
    | exact LeO.none _
    | refine LeO.ite ?_ ?_
    | refine LeO.bind ?_ (fun _ => ?_)
theorem numeraryref02_Of.mono : ∀ a0 k, LeO (numeraryref02_Of.f k a0) (numeraryref02_Of.f (k + 1) a0) := by
  intro a0 k
  have ih0 := numeraryref02_Of.mono_l k
  unfold numeraryref02_Of.f
  repeat' first
      | (with_reducible exact ih0 _ _)
      | (with_reducible exact LeO.refl _)
      | (with_reducible exact LeO.none _)
      | (with_reducible refine LeO.ite ?_ ?_)
      | (with_reducible refine LeO.bind ?_ (fun _ => ?_))
set_option maxHeartbeats 8000000 in
set_option maxRecDepth 100000 in
theorem numeraryref02_Of.calls (k : Nat) (a0 : Int) (r : List Int) (w : World) (h : numeraryref02_Of.f k a0 = some r) :
    Calls Try.prog 27 #[.int .u64 a0] w fun e w' => ∃ v0_ : Value, e = .returned (v0_) ∧ Kd.R (Kd.int .i64) 3 w' w.heap.size (fun _ => True) v0_ r ∧ Below w.heap.size w w' := by
  have HB := Aside0.mk (Below.refl w.heap.size w)
  have H : (numeraryref02_Of.l0 k a0 ([] : List Int)) = some r := h
  clear h
  have H' := Aside0.mk H
  clear H
  go_enter Try.func27, Try.ntmps27
  go_wp2
  (try simp only [Act.put, List.setIfInBounds_toArray, List.set_cons_zero, List.set_cons_succ])
  go_loopg [0, 3] k (fun kq v0 v3 w' => ∃ (x0_1 : Int) (x3_1 : List Int), v0 = .int .u64 x0_1 ∧ Aside0 (numeraryref02_Of.l0 kq x0_1 x3_1 = some r) ∧ Aside0 (kq ≤ k) ∧ Aside0 (Kd.R (Kd.int .i64) 3 w' w.heap.size (fun _ => True) v3 x3_1) ∧ Aside0 (Below w.heap.size w w'))
  case atStart => exact ⟨(a0), (([] : List Int)), rfl, H', ⟨Nat.le_refl _⟩, ⟨by first | exact Kd.R_nil _ _ _ _ _ | exact Kd.N_nil _ _ _ _ _ | exact Kd.V_nil _ _ _ _ _ | exact Kd.Q_nil _ _ _ _ _ | exact Kd.S_nil _ _ _ _ _⟩, ⟨by repeat (first | (with_reducible first | exact HB.out | apply below_alloc | apply pw_below_drewN | apply below_drew1) | exact HB.out)⟩⟩
  case round =>
    clear H'
    obtain ⟨x0_1, x3_1, rfl, HA, HK1, HO_3, HB⟩ := hrel
    cases gk with
    | zero => exact absurd HA.out (by simp [numeraryref02_Of.l0])
    | succ k1 =>
      have H := HA.out
      clear HA
      simp only [numeraryref02_Of.l0] at H
      by_cases c2 : x0_1 > 0
      rotate_left
      · rw [if_neg c2] at H
        have c2b0 : decide (0 < x0_1) = false := decide_eq_false c2
        clear c2
        obtain rfl := Option.some.inj H
        go_wp2
        go_ret
        exact ⟨_, rfl, by (with_reducible repeat (first | apply Kd.R_alloc | apply Kd.R_drewN | apply Kd.R_drew)); exact HO_3.out, by repeat (first | (with_reducible first | exact HB.out | apply below_alloc | apply pw_below_drewN | apply below_drew1) | exact HB.out)⟩

      rw [if_pos c2] at H
      have c2b0 : decide (0 < x0_1) = true := decide_eq_true c2
      clear c2
      by_cases c3 : x3_1.length < 17592186044416
      rotate_left
      · rw [if_neg c3] at H
        exact absurd H (by simp)
      rw [if_pos c3] at H
      have LMc3 := Aside0.mk c3
      clear c3
      obtain ⟨y141, hy141⟩ : ∃ y_ : List Int, y_ = (x3_1 ++ [wrap64 (Int.tmod x0_1 10)]) := ⟨_, rfl⟩
      replace H : (numeraryref02_Of.l0 k1 (IntKind.u64.wrap (Int.tdiv x0_1 10)) y141) = some r := by first | (rw [hy141]; with_reducible exact H) | (have H2_ := (Option.bind_some _ _).symm.trans H; rw [hy141]; with_reducible exact H2_) | (have H2_ := (Option.bind_some _ _).symm.trans H; with_reducible exact H2_) | with_reducible exact H | (rw [hy141]; exact H) | exact H
      have Ny141 := Aside0.mk hy141
      clear hy141
      have H' := Aside0.mk H
      clear H
      go_wp2_with (first | ((with_reducible refine gate_builtin (b := .append) (xs := #[.tmp 6, .tmp 10]) rfl ?_); at_builtin; refine Kd.R_append (Kd.int .i64) (w0 := w) w.heap.size rfl (.tmp 6) (.tmp 10) 28 3 (.int .i64 0) 8 rfl Try.underlying28 info3 rfl (by decide) (by omega) u3 x3_1 (wrap64 (Int.tmod x0_1 10)) [.int .i64 (wrap64 (Int.tmod x0_1 10))] (fun _ => True) (fun _ => False) rfl rfl ?aP (fun _ hk => hk.elim) ?aF ?aO ?aB ?aS ?aL ?_; (case aP => exact rfl); (case aB => exact (by repeat (first | (with_reducible first | exact HB.out | apply below_alloc | apply pw_below_drewN | apply below_drew1) | exact HB.out))); (case aF => exact (fun _ _ => trivial)); (case aO => exact (by (with_reducible repeat (first | apply Kd.R_alloc | apply Kd.R_drewN | apply Kd.R_drew)); exact HO_3.out)); (case aS => exact (below_size (by repeat (first | (with_reducible first | exact HB.out | apply below_alloc | apply pw_below_drewN | apply below_drew1) | exact HB.out)))); (case aL => have := LMc3.out; omega); intro v142 w4 ho hb hg hat; rw [← Ny141.out] at ho; have n0_ := Aside0.mk (hb); have n1_ := Aside0.mk (ho); clear HB; clear HO_3; have HB := n0_; have HO143 := n1_; clear n0_ n1_; clear ho hb hg hat))
      go_roundg k1
      case measure => have := HK1.out; omega
      case rel => exact ⟨(IntKind.u64.wrap (Int.tdiv x0_1 10)), (y141), rfl, H', ⟨by have := HK1.out; omega⟩, ⟨by (with_reducible repeat (first | apply Kd.R_alloc | apply Kd.R_drewN | apply Kd.R_drew)); exact HO143.out⟩, ⟨by repeat (first | (with_reducible first | exact HB.out | apply below_alloc | apply pw_below_drewN | apply below_drew1) | exact HB.out)⟩⟩
end Go.Proofs.Ytcepdndhkidehaa.PA
end
section
namespace Go.Proofs.Ytcepdndhkidehaa.PA
open Go.RowKit Go.Proofs.YtcepdndhkidehaaW.PrintWords Go.Proofs.YtcepdndhkidehaaW.PrintLast Go.Proofs.YtcepdndhkidehaaW.PrintMore
attribute [local go_sem] max2_int min2_int max_two min_two max_three min_three max_four min_four   -- for this text's walks alone
set_option linter.unusedVariables false
set_option linter.unusedSimpArgs false

/-! ### numeraryref02_Add: function 39 -/
mutual
def numeraryref02_Add.l0 : Nat → List Int → List Int → List Int → Int → Int → Option (List Int)
  | 0, _, _, _, _, _ => none
  | k + 1, x0, x1, x5, x6, x7 => if x7 < (x0.length : Int) then (numeraryref02_Add.j1 k x0 x1 x5 x6 x7 true) else (if x7 < (x1.length : Int) then (numeraryref02_Add.j1 k x0 x1 x5 x6 x7 true) else (numeraryref02_Add.j1 k x0 x1 x5 x6 x7 (decide (x6 > 0))))
def numeraryref02_Add.j1 : Nat → List Int → List Int → List Int → Int → Int → Bool → Option (List Int)
  | 0, _, _, _, _, _, _ => none
  | k + 1, x0, x1, x5, x6, x7, x23 => if x23 = true then ((numeraryref02_at.f x0 x7).bind fun t144 => ((numeraryref02_at.f x1 x7).bind fun t145 => (if x5.length < 17592186044416 then (numeraryref02_Add.l0 k x0 x1 (x5 ++ [Int.tmod (wrap64 ((wrap64 (x6 + t144)) + t145)) 10]) (wrap64 (Int.tdiv (wrap64 ((wrap64 (x6 + t144)) + t145)) 10)) (wrap64 (x7 + 1))) else (none)))) else ((numeraryref02_trim.f k x5).bind fun t149 => (some t149))
end
def numeraryref02_Add.f (k : Nat) (l0 : List Int) (l1 : List Int) : Option (List Int) := numeraryref02_Add.l0 k l0 l1 ([] : List Int) 0 0
theorem numeraryref02_Add.mono_l : ∀ k, (∀ y0 y1 y2 y3 y4, LeO (numeraryref02_Add.l0 k y0 y1 y2 y3 y4) (numeraryref02_Add.l0 (k + 1) y0 y1 y2 y3 y4)) ∧ (∀ y0 y1 y2 y3 y4 y5, LeO (numeraryref02_Add.j1 k y0 y1 y2 y3 y4 y5) (numeraryref02_Add.j1 (k + 1) y0 y1 y2 y3 y4 y5))
  | 0 => ⟨fun _ _ _ _ _ r h => by simp [numeraryref02_Add.l0] at h, fun _ _ _ _ _ _ r h => by simp [numeraryref02_Add.j1] at h⟩
  | k + 1 => by
    obtain ⟨ih0, ih1⟩ := numeraryref02_Add.mono_l k
    refine ⟨?_, ?_⟩
    · intro y0 y1 y2 y3 y4
      unfold numeraryref02_Add.l0
      repeat' first
      | (with_reducible exact ih0 _ _ _ _ _)
      | (with_reducible exact ih1 _ _ _ _ _ _)
      | (with_reducible exact numeraryref02_trim.mono _ _)
      | (with_reducible exact LeO.refl _)
      | (with_reducible exact LeO.none _)
      | (with_reducible refine LeO.ite ?_ ?_)
      | (with_reducible refine LeO.bind ?_ (fun _ => ?_))
    intro y0 y1 y2 y3 y4 y5
    unfold numeraryref02_Add.j1
    repeat' first
    | (with_reducible exact ih0 _ _ _ _ _)
    | (with_reducible exact ih1 _ _ _ _ _ _)
    | (with_reducible exact numeraryref02_trim.mono _ _)
    | (with_reducible exact LeO.refl _)
    | (with_reducible exact LeO.none _)
    | (with_reducible refine LeO.ite ?_ ?_)
    | (with_reducible refine LeO.bind ?_ (fun _ => ?_))
    | exact ih0 _ _ _ _ _
    | exact ih1 _ _ _ _ _ _
    | exact numeraryref02_trim.mono _ _
    | exact LeO.none _
    | refine LeO.ite ?_ ?_
    | refine LeO.bind ?_ (fun _ => ?_)
theorem numeraryref02_Add.mono : ∀ a0 a1 k, LeO (numeraryref02_Add.f k a0 a1) (numeraryref02_Add.f (k + 1) a0 a1) := by
  intro a0 a1 k
  obtain ⟨ih0, ih1⟩ := numeraryref02_Add.mono_l k
  unfold numeraryref02_Add.f
  repeat' first
      | (with_reducible exact ih0 _ _ _ _ _)
      | (with_reducible exact ih1 _ _ _ _ _ _)
      | (with_reducible exact numeraryref02_trim.mono _ _)
      | (with_reducible exact LeO.refl _)
      | (with_reducible exact LeO.none _)
      | (with_reducible refine LeO.ite ?_ ?_)
      | (with_reducible refine LeO.bind ?_ (fun _ => ?_))
set_option maxHeartbeats 8000000 in
set_option maxRecDepth 100000 in
theorem numeraryref02_Add.calls (k : Nat) (A0 : Option Addr) (c0 : Nat) (l0 : List Int) (A1 : Option Addr) (c1 : Nat) (l1 : List Int) (r : List Int) (w : World) (hr0 : Kd.C (Kd.int .i64) w A0 l0.length l0) (hc0 : l0.length ≤ c0) (hr1 : Kd.C (Kd.int .i64) w A1 l1.length l1) (hc1 : l1.length ≤ c1) (h : numeraryref02_Add.f k l0 l1 = some r) :
    Calls Try.prog 39 #[.slice A0 l0.length c0, .slice A1 l1.length c1] w fun e w' => ∃ v0_ : Value, e = .returned (v0_) ∧ Kd.R (Kd.int .i64) 3 w' w.heap.size (fun _ => True) v0_ r ∧ Below w.heap.size w w' := by
  have HR0 := Aside0.mk hr0
  have HC0 := Aside0.mk hc0
  clear hr0 hc0
  have HR1 := Aside0.mk hr1
  have HC1 := Aside0.mk hc1
  clear hr1 hc1
  have HB := Aside0.mk (Below.refl w.heap.size w)
  have H : (numeraryref02_Add.l0 k l0 l1 ([] : List Int) 0 0) = some r := h
  clear h
  have H' := Aside0.mk H
  clear H
  go_enter Try.func39, Try.ntmps39
  go_wp2
  (try simp only [Act.put, List.setIfInBounds_toArray, List.set_cons_zero, List.set_cons_succ])
  go_loopg [5, 6, 7] k (fun kq v5 v6 v7 w' => ∃ (x5_1 : List Int) (x6_1 : Int) (x7_1 : Int), v6 = .int .i64 x6_1 ∧ v7 = .int .i64 x7_1 ∧ Aside0 (numeraryref02_Add.l0 kq l0 l1 x5_1 x6_1 x7_1 = some r) ∧ Aside0 (kq ≤ k) ∧ Aside0 (Kd.R (Kd.int .i64) 3 w' w.heap.size (fun _ => True) v5 x5_1) ∧ Aside0 (Below w.heap.size w w'))
  case atStart => exact ⟨(([] : List Int)), (0), (0), rfl, rfl, H', ⟨Nat.le_refl _⟩, ⟨by first | exact Kd.R_nil _ _ _ _ _ | exact Kd.N_nil _ _ _ _ _ | exact Kd.V_nil _ _ _ _ _ | exact Kd.Q_nil _ _ _ _ _ | exact Kd.S_nil _ _ _ _ _⟩, ⟨by repeat (first | (with_reducible first | exact HB.out | apply below_alloc | apply pw_below_drewN | apply below_drew1) | exact HB.out)⟩⟩
  case round =>
    clear H'
    try clear c1
    try clear p2
    obtain ⟨x5_1, x6_1, x7_1, rfl, rfl, HA, HK1, HO_5, HB⟩ := hrel
    cases gk with
    | zero => exact absurd HA.out (by simp [numeraryref02_Add.l0])
    | succ k1 =>
      have H := HA.out
      clear HA
      simp only [numeraryref02_Add.l0] at H
      have HC3 := Aside0.mk H
      clear H
      go_upto_region 4 with (fail)
      go_cut [23] (fun v23 wc => ∃ (kq : Nat) (x23_2 : Bool), v23 = .bool x23_2 ∧ Aside0 (numeraryref02_Add.j1 kq l0 l1 x5_1 x6_1 x7_1 x23_2 = some r) ∧ Aside0 (kq ≤ k1) ∧ Aside0 (Kd.R (Kd.int .i64) 3 wc w.heap.size (fun _ => True) u5 x5_1) ∧ Aside0 (Below w.heap.size w wc))
      case first =>
        have H := HC3.out
        clear HC3
        by_cases c4 : x7_1 < (l0.length : Int)
        · rw [if_pos c4] at H
          have c4b0 : decide (x7_1 < (l0.length : Int)) = true := decide_eq_true c4
          clear c4
          (first | rw [c4b0] | (simp only [i64_w, i32_w]; rw [c4b0]) | skip)
          have H' := Aside0.mk H
          clear H
          go_wp2
          go_meet
          case rel => exact ⟨_, (true), rfl, H', ⟨by have := HK1.out; first | omega | exact Nat.le_refl _⟩, ⟨by (with_reducible repeat (first | apply Kd.R_alloc | apply Kd.R_drewN | apply Kd.R_drew)); exact HO_5.out⟩, ⟨by repeat (first | (with_reducible first | exact HB.out | apply below_alloc | apply pw_below_drewN | apply below_drew1) | exact HB.out)⟩⟩
        rw [if_neg c4] at H
        have c4b0 : decide (x7_1 < (l0.length : Int)) = false := decide_eq_false c4
        clear c4
        (first | rw [c4b0] | (simp only [i64_w, i32_w]; rw [c4b0]) | skip)
        by_cases c5 : x7_1 < (l1.length : Int)
        · rw [if_pos c5] at H
          have c5b0 : decide (x7_1 < (l1.length : Int)) = true := decide_eq_true c5
          clear c5
          have H' := Aside0.mk H
          clear H
          go_wp2
          go_meet
          case rel => exact ⟨_, (true), rfl, H', ⟨by have := HK1.out; first | omega | exact Nat.le_refl _⟩, ⟨by (with_reducible repeat (first | apply Kd.R_alloc | apply Kd.R_drewN | apply Kd.R_drew)); exact HO_5.out⟩, ⟨by repeat (first | (with_reducible first | exact HB.out | apply below_alloc | apply pw_below_drewN | apply below_drew1) | exact HB.out)⟩⟩
        rw [if_neg c5] at H
        have c5b0 : decide (x7_1 < (l1.length : Int)) = false := decide_eq_false c5
        clear c5
        have H' := Aside0.mk H
        clear H
        go_wp2
        go_meet
        case rel => exact ⟨_, (decide (x6_1 > 0)), rfl, H', ⟨by have := HK1.out; first | omega | exact Nat.le_refl _⟩, ⟨by (with_reducible repeat (first | apply Kd.R_alloc | apply Kd.R_drewN | apply Kd.R_drew)); exact HO_5.out⟩, ⟨by repeat (first | (with_reducible first | exact HB.out | apply below_alloc | apply pw_below_drewN | apply below_drew1) | exact HB.out)⟩⟩
      case rest =>
        clear HC3
        try clear c1
        try clear p2
        try clear c3
        try clear c4
        try clear c4b0
        try clear c5
        try clear c5b0
        try clear p2
        obtain ⟨kq, x23_2, rfl, HA, HJ2, HO_5, HB⟩ := hcut
        cases kq with
        | zero => exact absurd HA.out (by simp [numeraryref02_Add.j1])
        | succ kj2 =>
          have H := HA.out
          clear HA
          simp only [numeraryref02_Add.j1] at H
          by_cases c6 : x23_2 = true
          rotate_left
          · replace c6 := Bool.eq_false_iff.mpr c6
            subst c6
            have H1 : ((numeraryref02_trim.f kj2 x5_1).bind fun t149 => (some t149)) = some r := by rw [if_neg (show ¬ (false = true) by decide)] at H; exact H
            clear H
            have H := H1
            clear H1
            replace H := Option.bind_eq_some_iff.mp H
            obtain ⟨t149, A110, H⟩ := H
            have A11 := Aside0.mk A110
            clear A110
            obtain rfl := Option.some.inj H
            obtain ⟨Ao12, co12, eo12⟩ := Kd.R_slice HO_5.out
            subst eo12
            go_wp2_with (first | ((with_reducible refine gate_callee (f := 50) rfl ?_); refine goesL_ (some 45) rfl rfl Try.func50 (by kernel_rfl) rfl #[.slice Ao12 x5_1.length co12] rfl (by (try simp only [List.map_toArray, List.map_cons, List.map_nil]); first | done | rfl | (simp only [List.length_drop, List.length_take]; rfl)) ?_; (with_reducible refine (numeraryref02_trim.calls kj2 (fun k_ => some k_ = (.slice Ao12 x5_1.length co12 : Value).ownBlock) (.slice Ao12 x5_1.length co12) x5_1 t149 w _ ?side1 ?side2 A11.out).mono ?_); (case side1 => repeat (first | (with_reducible first | exact HB.out | apply below_alloc | apply pw_below_drewN | apply below_drew1) | exact HB.out)); (case side2 => exact Kd.R_tight rfl HO_5.out); rintro e w13 ⟨v150, rfl, ho0, hb, hkp⟩; refine ⟨_, rfl, ?_⟩; have n0_ := Aside0.mk (Kd.R_mono (ok' := fun k_ => True) ho0 (fun k_ hk_ => trivial)); have n1_ := Aside0.mk (hb); clear HB; clear HO_5; have HO151 := n0_; have HB := n1_; clear n0_ n1_))
            go_ret
            exact ⟨_, rfl, by (with_reducible repeat (first | apply Kd.R_alloc | apply Kd.R_drewN | apply Kd.R_drew)); exact HO151.out, by repeat (first | (with_reducible first | exact HB.out | apply below_alloc | apply pw_below_drewN | apply below_drew1) | exact HB.out)⟩

          subst c6
          have H1 : ((numeraryref02_at.f l0 x7_1).bind fun t144 => ((numeraryref02_at.f l1 x7_1).bind fun t145 => (if x5_1.length < 17592186044416 then (numeraryref02_Add.l0 kj2 l0 l1 (x5_1 ++ [Int.tmod (wrap64 ((wrap64 (x6_1 + t144)) + t145)) 10]) (wrap64 (Int.tdiv (wrap64 ((wrap64 (x6_1 + t144)) + t145)) 10)) (wrap64 (x7_1 + 1))) else (none)))) = some r := by rw [if_pos rfl] at H; exact H
          clear H
          have H := H1
          clear H1
          replace H := Option.bind_eq_some_iff.mp H
          obtain ⟨t144, A70, H⟩ := H
          have A7 := Aside0.mk A70
          clear A70
          replace H := Option.bind_eq_some_iff.mp H
          obtain ⟨t145, A80, H⟩ := H
          have A8 := Aside0.mk A80
          clear A80
          by_cases c9 : x5_1.length < 17592186044416
          rotate_left
          · rw [if_neg c9] at H
            exact absurd H (by simp)
          rw [if_pos c9] at H
          have LMc9 := Aside0.mk c9
          clear c9
          obtain ⟨y146, hy146⟩ : ∃ y_ : List Int, y_ = (x5_1 ++ [Int.tmod (wrap64 ((wrap64 (x6_1 + t144)) + t145)) 10]) := ⟨_, rfl⟩
          replace H : (numeraryref02_Add.l0 kj2 l0 l1 y146 (wrap64 (Int.tdiv (wrap64 ((wrap64 (x6_1 + t144)) + t145)) 10)) (wrap64 (x7_1 + 1))) = some r := by first | (rw [hy146]; with_reducible exact H) | (have H2_ := (Option.bind_some _ _).symm.trans H; rw [hy146]; with_reducible exact H2_) | (have H2_ := (Option.bind_some _ _).symm.trans H; with_reducible exact H2_) | with_reducible exact H | (rw [hy146]; exact H) | exact H
          have Ny146 := Aside0.mk hy146
          clear hy146
          have H' := Aside0.mk H
          clear H
          go_wp2_with (first | ((with_reducible refine gate_callee (f := 49) rfl ?_); refine goesL_ (some 28) rfl rfl Try.func49 (by kernel_rfl) rfl #[.slice A0 l0.length c0, .int .i64 x7_1] rfl (by (try simp only [List.map_toArray, List.map_cons, List.map_nil]); first | done | rfl | (simp only [List.length_drop, List.length_take]; rfl)) ?_; (with_reducible refine (numeraryref02_at.calls _ _ l0 x7_1 t144 _ ?side1 ?side2 A7.out).mono ?_); (case side1 => repeat (first | exact (Kd.C_below HR0.out HB.out) | (with_reducible refine Kd.C_alloc ?_ _) | (with_reducible refine Kd.C_drewN ?_ _) | (with_reducible refine Kd.C_drew ?_))); (case side2 => exact HC0.out); rintro e w' ⟨rfl, ⟨nd, rfl⟩⟩; refine ⟨_, rfl, ?_⟩) | ((with_reducible refine gate_callee (f := 49) rfl ?_); refine goesL_ (some 31) rfl rfl Try.func49 (by kernel_rfl) rfl #[.slice A1 l1.length c1, .int .i64 x7_1] rfl (by (try simp only [List.map_toArray, List.map_cons, List.map_nil]); first | done | rfl | (simp only [List.length_drop, List.length_take]; rfl)) ?_; (with_reducible refine (numeraryref02_at.calls _ _ l1 x7_1 t145 _ ?side1 ?side2 A8.out).mono ?_); (case side1 => repeat (first | exact (Kd.C_below HR1.out (by repeat (first | (with_reducible first | exact HB.out | apply below_alloc | apply pw_below_drewN | apply below_drew1) | exact HB.out))) | (with_reducible refine Kd.C_alloc ?_ _) | (with_reducible refine Kd.C_drewN ?_ _) | (with_reducible refine Kd.C_drew ?_))); (case side2 => exact HC1.out); rintro e w' ⟨rfl, ⟨nd, rfl⟩⟩; refine ⟨_, rfl, ?_⟩) | ((with_reducible refine gate_builtin (b := .append) (xs := #[.tmp 37, .tmp 40]) rfl ?_); (try (refine gate_guard (by rfl) ?_; dsimp only)); at_builtin; refine Kd.R_append (Kd.int .i64) (w0 := w) w.heap.size rfl (.tmp 37) (.tmp 40) 28 3 (.int .i64 0) 8 rfl Try.underlying28 info3 rfl (by decide) (by omega) u5 x5_1 (Int.tmod (wrap64 ((wrap64 (x6_1 + t144)) + t145)) 10) [.int .i64 (Int.tmod (wrap64 ((wrap64 (x6_1 + t144)) + t145)) 10)] (fun _ => True) (fun _ => False) rfl rfl ?aP (fun _ hk => hk.elim) ?aF ?aO ?aB ?aS ?aL ?_; (case aP => exact rfl); (case aB => exact (by repeat (first | (with_reducible first | exact HB.out | apply below_alloc | apply pw_below_drewN | apply below_drew1) | exact HB.out))); (case aF => exact (fun _ _ => trivial)); (case aO => exact (by (with_reducible repeat (first | apply Kd.R_alloc | apply Kd.R_drewN | apply Kd.R_drew)); exact HO_5.out)); (case aS => exact (below_size (by repeat (first | (with_reducible first | exact HB.out | apply below_alloc | apply pw_below_drewN | apply below_drew1) | exact HB.out)))); (case aL => have := LMc9.out; omega); intro v147 w10 ho hb hg hat; rw [← Ny146.out] at ho; have n0_ := Aside0.mk (hb); have n1_ := Aside0.mk (ho); clear HB; clear HO_5; have HB := n0_; have HO148 := n1_; clear n0_ n1_; clear ho hb hg hat))
          go_roundg kj2
          case measure => have := HK1.out; have := HJ2.out; omega
          case rel => exact ⟨(y146), (wrap64 (Int.tdiv (wrap64 ((wrap64 (x6_1 + t144)) + t145)) 10)), (wrap64 (x7_1 + 1)), rfl, rfl, H', ⟨by have := HK1.out; have := HJ2.out; omega⟩, ⟨by (with_reducible repeat (first | apply Kd.R_alloc | apply Kd.R_drewN | apply Kd.R_drew)); exact HO148.out⟩, ⟨by repeat (first | (with_reducible first | exact HB.out | apply below_alloc | apply pw_below_drewN | apply below_drew1) | exact HB.out)⟩⟩
end Go.Proofs.Ytcepdndhkidehaa.PA
end
section
namespace Go.Proofs.Ytcepdndhkidehaa.PA
open Go.RowKit Go.Proofs.YtcepdndhkidehaaW.PrintWords Go.Proofs.YtcepdndhkidehaaW.PrintLast Go.Proofs.YtcepdndhkidehaaW.PrintMore
attribute [local go_sem] max2_int min2_int max_two min_two max_three min_three max_four min_four   -- for this text's walks alone
set_option linter.unusedVariables false
set_option linter.unusedSimpArgs false

/-! ### numeraryref02_Made: function 18 -/
def numeraryref02_Made.l0 : Nat → List Int → List Int → Int → Option (List Int)
  | 0, _, _, _ => none
  | k + 1, x0, x3, x4 => if x4 ≥ 0 then ((numeraryref02_Times.f k x3 4294967296).bind fun t152 => (if 0 ≤ x4 then (if x4 < (x0.length : Int) then ((numeraryref02_Of.f k (IntKind.u64.wrap (rd x0 x4))).bind fun t156 => ((numeraryref02_Add.f k t152 t156).bind fun t159 => (numeraryref02_Made.l0 k x0 t159 (wrap64 (x4 - 1))))) else (none)) else (none))) else (some x3)
def numeraryref02_Made.f (k : Nat) (l0 : List Int) : Option (List Int) := numeraryref02_Made.l0 k l0 ([] : List Int) (wrap64 ((l0.length : Int) - 1))
theorem numeraryref02_Made.mono_l : ∀ k, (∀ y0 y1 y2, LeO (numeraryref02_Made.l0 k y0 y1 y2) (numeraryref02_Made.l0 (k + 1) y0 y1 y2))
  | 0 => fun _ _ _ r h => by simp [numeraryref02_Made.l0] at h
  | k + 1 => by
    have ih0 := numeraryref02_Made.mono_l k
    intro y0 y1 y2
    unfold numeraryref02_Made.l0
    repeat' first
    | (with_reducible exact ih0 _ _ _)
    | (with_reducible exact numeraryref02_Add.mono _ _ _)
    | (with_reducible exact numeraryref02_Of.mono _ _)
    | (with_reducible exact numeraryref02_Times.mono _ _ _)
    | (with_reducible exact LeO.refl _)
    | (with_reducible exact LeO.none _)
    | (with_reducible refine LeO.ite ?_ ?_)
    | (with_reducible refine LeO.bind ?_ (fun _ => ?_))
    | exact ih0 _ _ _
    | exact numeraryref02_Add.mono _ _ _
    | exact numeraryref02_Of.mono _ _
    | exact numeraryref02_Times.mono _ _ _
    | exact LeO.none _
    | refine LeO.ite ?_ ?_
    | refine LeO.bind ?_ (fun _ => ?_)
theorem numeraryref02_Made.mono : ∀ a0 k, LeO (numeraryref02_Made.f k a0) (numeraryref02_Made.f (k + 1) a0) := by
  intro a0 k
  have ih0 := numeraryref02_Made.mono_l k
  unfold numeraryref02_Made.f
  repeat' first
      | (with_reducible exact ih0 _ _ _)
      | (with_reducible exact numeraryref02_Add.mono _ _ _)
      | (with_reducible exact numeraryref02_Of.mono _ _)
      | (with_reducible exact numeraryref02_Times.mono _ _ _)
      | (with_reducible exact LeO.refl _)
      | (with_reducible exact LeO.none _)
      | (with_reducible refine LeO.ite ?_ ?_)
      | (with_reducible refine LeO.bind ?_ (fun _ => ?_))
set_option maxHeartbeats 8000000 in
set_option maxRecDepth 100000 in
theorem numeraryref02_Made.calls (k : Nat) (A0 : Option Addr) (c0 : Nat) (l0 : List Int) (r : List Int) (w : World) (hr0 : Kd.C (Kd.int .u32) w A0 l0.length l0) (hc0 : l0.length ≤ c0) (h : numeraryref02_Made.f k l0 = some r) :
    Calls Try.prog 18 #[.slice A0 l0.length c0] w fun e w' => ∃ v0_ : Value, e = .returned (v0_) ∧ Kd.R (Kd.int .i64) 3 w' w.heap.size (fun _ => True) v0_ r ∧ Below w.heap.size w w' := by
  have HR0 := Aside0.mk hr0
  have HC0 := Aside0.mk hc0
  clear hr0 hc0
  have HB := Aside0.mk (Below.refl w.heap.size w)
  have H : (numeraryref02_Made.l0 k l0 ([] : List Int) (wrap64 ((l0.length : Int) - 1))) = some r := h
  clear h
  have H' := Aside0.mk H
  clear H
  go_enter Try.func18, Try.ntmps18
  go_wp2
  (try simp only [Act.put, List.setIfInBounds_toArray, List.set_cons_zero, List.set_cons_succ])
  go_loopg [3, 4] k (fun kq v3 v4 w' => ∃ (x3_1 : List Int) (x4_1 : Int), v4 = .int .i64 x4_1 ∧ Aside0 (numeraryref02_Made.l0 kq l0 x3_1 x4_1 = some r) ∧ Aside0 (kq ≤ k) ∧ Aside0 (Kd.R (Kd.int .i64) 3 w' w.heap.size (fun _ => True) v3 x3_1) ∧ Aside0 (Below w.heap.size w w'))
  case atStart => exact ⟨(([] : List Int)), (wrap64 ((l0.length : Int) - 1)), rfl, H', ⟨Nat.le_refl _⟩, ⟨by first | exact Kd.R_nil _ _ _ _ _ | exact Kd.N_nil _ _ _ _ _ | exact Kd.V_nil _ _ _ _ _ | exact Kd.Q_nil _ _ _ _ _ | exact Kd.S_nil _ _ _ _ _⟩, ⟨by repeat (first | (with_reducible first | exact HB.out | apply below_alloc | apply pw_below_drewN | apply below_drew1) | exact HB.out)⟩⟩
  case round =>
    clear H'
    try clear c1
    obtain ⟨x3_1, x4_1, rfl, HA, HK1, HO_3, HB⟩ := hrel
    cases gk with
    | zero => exact absurd HA.out (by simp [numeraryref02_Made.l0])
    | succ k1 =>
      have H := HA.out
      clear HA
      simp only [numeraryref02_Made.l0] at H
      by_cases c2 : x4_1 ≥ 0
      rotate_left
      · rw [if_neg c2] at H
        have c2b0 : decide (0 ≤ x4_1) = false := decide_eq_false c2
        clear c2
        obtain rfl := Option.some.inj H
        go_wp2
        go_ret
        exact ⟨_, rfl, by (with_reducible repeat (first | apply Kd.R_alloc | apply Kd.R_drewN | apply Kd.R_drew)); exact HO_3.out, by repeat (first | (with_reducible first | exact HB.out | apply below_alloc | apply pw_below_drewN | apply below_drew1) | exact HB.out)⟩

      rw [if_pos c2] at H
      have c2b0 : decide (0 ≤ x4_1) = true := decide_eq_true c2
      clear c2
      replace H := Option.bind_eq_some_iff.mp H
      obtain ⟨t152, A30, H⟩ := H
      have A3 := Aside0.mk A30
      clear A30
      by_cases c4 : 0 ≤ x4_1
      rotate_left
      · rw [if_neg c4] at H
        exact absurd H (by simp)
      rw [if_pos c4] at H
      have c4b0 : decide (0 ≤ x4_1) = true := decide_eq_true c4
      clear c4
      by_cases c5 : x4_1 < (l0.length : Int)
      rotate_left
      · rw [if_neg c5] at H
        exact absurd H (by simp)
      rw [if_pos c5] at H
      have c5b0 : decide (x4_1 < (l0.length : Int)) = true := decide_eq_true c5
      clear c5
      replace H := Option.bind_eq_some_iff.mp H
      obtain ⟨t156, A60, H⟩ := H
      have A6 := Aside0.mk A60
      clear A60
      replace H := Option.bind_eq_some_iff.mp H
      obtain ⟨t159, A70, H⟩ := H
      have A7 := Aside0.mk A70
      clear A70
      have H' := Aside0.mk H
      clear H
      obtain ⟨Ao8, co8, eo8⟩ := Kd.R_slice HO_3.out
      subst eo8
      go_wp2_with (first | ((with_reducible refine gate_callee (f := 20) rfl ?_); refine goesL_ (some 14) rfl rfl Try.func20 (by kernel_rfl) rfl #[.slice Ao8 x3_1.length co8, .int .i64 4294967296] rfl (by (try simp only [List.map_toArray, List.map_cons, List.map_nil]); first | done | rfl | (simp only [List.length_drop, List.length_take]; rfl)) ?_; (with_reducible refine (numeraryref02_Times.calls k1 _ _ x3_1 4294967296 t152 _ ?side1 ?side2 A3.out).mono ?_); (case side1 => repeat (first | exact (Kd.R_reads' HO_3.out).2.2 | (with_reducible refine Kd.C_alloc ?_ _) | (with_reducible refine Kd.C_drewN ?_ _) | (with_reducible refine Kd.C_drew ?_))); (case side2 => exact (Kd.R_reads' HO_3.out).2.1); rintro e w9 ⟨v153, rfl, ho0, hb⟩; refine ⟨_, rfl, ?_⟩; have HO154 := Aside0.mk (Kd.R_lower (Kd.R_new' ho0 (Kd.R_lt (by (with_reducible repeat (first | apply Kd.R_alloc | apply Kd.R_drewN | apply Kd.R_drew)); exact HO_3.out))) (below_size (by repeat (first | (with_reducible first | exact HB.out | apply below_alloc | apply pw_below_drewN | apply below_drew1) | exact HB.out)))); replace HO_3 := Aside0.mk (Kd.R_elder' (by (with_reducible repeat (first | apply Kd.R_alloc | apply Kd.R_drewN | apply Kd.R_drew)); exact HO_3.out) (Kd.R_base ho0) hb); replace HB := Aside0.mk (below_step (by repeat (first | (with_reducible first | exact HB.out | apply below_alloc | apply pw_below_drewN | apply below_drew1) | exact HB.out)) hb); have p155 : 0 ≤ (x4_1 : Int) := of_decide_eq_true (by assumption); have q155 : x4_1 < (l0.length : Int) := of_decide_eq_true (by assumption); obtain ⟨ad155, e155, hx155_0⟩ := Kd.at_int HR0.out x4_1 p155 q155; cases e155; replace hx155_0 := (HB.out.cell (World.block_lt_of_cell? w _ hx155_0)).trans hx155_0; replace p155 := eq_true p155; replace q155 := eq_true q155) | ((with_reducible refine gate_callee (f := 27) rfl ?_); refine goesL_ (some 20) rfl rfl Try.func27 (by kernel_rfl) rfl #[.int .u64 (IntKind.u64.wrap (rd l0 x4_1))] rfl (by (try simp only [List.map_toArray, List.map_cons, List.map_nil]); first | done | rfl | (simp only [List.length_drop, List.length_take]; rfl)) ?_; (with_reducible refine (numeraryref02_Of.calls k1 (IntKind.u64.wrap (rd l0 x4_1)) t156 _ A6.out).mono ?_); rintro e w10 ⟨v157, rfl, ho0, hb⟩; refine ⟨_, rfl, ?_⟩; have HO158 := Aside0.mk (Kd.R_lower (Kd.R_new' (Kd.R_new' ho0 (Kd.R_lt (by (with_reducible repeat (first | apply Kd.R_alloc | apply Kd.R_drewN | apply Kd.R_drew)); exact HO_3.out))) (Kd.R_lt (by (with_reducible repeat (first | apply Kd.R_alloc | apply Kd.R_drewN | apply Kd.R_drew)); exact HO154.out))) (below_size (by repeat (first | (with_reducible first | exact HB.out | apply below_alloc | apply pw_below_drewN | apply below_drew1) | exact HB.out)))); replace HO_3 := Aside0.mk (Kd.R_elder' (by (with_reducible repeat (first | apply Kd.R_alloc | apply Kd.R_drewN | apply Kd.R_drew)); exact HO_3.out) (Kd.R_base ho0) hb); replace HO154 := Aside0.mk (Kd.R_elder' (by (with_reducible repeat (first | apply Kd.R_alloc | apply Kd.R_drewN | apply Kd.R_drew)); exact HO154.out) (Kd.R_base ho0) hb); replace HB := Aside0.mk (below_step (by repeat (first | (with_reducible first | exact HB.out | apply below_alloc | apply pw_below_drewN | apply below_drew1) | exact HB.out)) hb); obtain ⟨Ao11, co11, eo11⟩ := Kd.R_slice HO154.out; subst eo11; obtain ⟨Ao12, co12, eo12⟩ := Kd.R_slice HO158.out; subst eo12) | ((with_reducible refine gate_callee (f := 39) rfl ?_); refine goesL_ (some 23) rfl rfl Try.func39 (by kernel_rfl) rfl #[.slice Ao11 t152.length co11, .slice Ao12 t156.length co12] rfl (by (try simp only [List.map_toArray, List.map_cons, List.map_nil]); first | done | rfl | (simp only [List.length_drop, List.length_take]; rfl)) ?_; (with_reducible refine (numeraryref02_Add.calls k1 _ _ t152 _ _ t156 t159 _ ?side1 ?side2 ?side3 ?side4 A7.out).mono ?_); (case side1 => repeat (first | exact (Kd.R_reads' HO154.out).2.2 | (with_reducible refine Kd.C_alloc ?_ _) | (with_reducible refine Kd.C_drewN ?_ _) | (with_reducible refine Kd.C_drew ?_))); (case side2 => exact (Kd.R_reads' HO154.out).2.1); (case side3 => repeat (first | exact (Kd.R_reads' HO158.out).2.2 | (with_reducible refine Kd.C_alloc ?_ _) | (with_reducible refine Kd.C_drewN ?_ _) | (with_reducible refine Kd.C_drew ?_))); (case side4 => exact (Kd.R_reads' HO158.out).2.1); rintro e w13 ⟨v160, rfl, ho0, hb⟩; refine ⟨_, rfl, ?_⟩; have HO161 := Aside0.mk (Kd.R_lower (Kd.R_new' (Kd.R_new' (Kd.R_new' ho0 (Kd.R_lt (by (with_reducible repeat (first | apply Kd.R_alloc | apply Kd.R_drewN | apply Kd.R_drew)); exact HO_3.out))) (Kd.R_lt (by (with_reducible repeat (first | apply Kd.R_alloc | apply Kd.R_drewN | apply Kd.R_drew)); exact HO154.out))) (Kd.R_lt (by (with_reducible repeat (first | apply Kd.R_alloc | apply Kd.R_drewN | apply Kd.R_drew)); exact HO158.out))) (below_size (by repeat (first | (with_reducible first | exact HB.out | apply below_alloc | apply pw_below_drewN | apply below_drew1) | exact HB.out)))); replace HO_3 := Aside0.mk (Kd.R_elder' (by (with_reducible repeat (first | apply Kd.R_alloc | apply Kd.R_drewN | apply Kd.R_drew)); exact HO_3.out) (Kd.R_base ho0) hb); replace HO154 := Aside0.mk (Kd.R_elder' (by (with_reducible repeat (first | apply Kd.R_alloc | apply Kd.R_drewN | apply Kd.R_drew)); exact HO154.out) (Kd.R_base ho0) hb); replace HO158 := Aside0.mk (Kd.R_elder' (by (with_reducible repeat (first | apply Kd.R_alloc | apply Kd.R_drewN | apply Kd.R_drew)); exact HO158.out) (Kd.R_base ho0) hb); replace HB := Aside0.mk (below_step (by repeat (first | (with_reducible first | exact HB.out | apply below_alloc | apply pw_below_drewN | apply below_drew1) | exact HB.out)) hb)))
      go_roundg k1
      case measure => have := HK1.out; omega
      case rel => exact ⟨(t159), (wrap64 (x4_1 - 1)), rfl, H', ⟨by have := HK1.out; omega⟩, ⟨by (with_reducible repeat (first | apply Kd.R_alloc | apply Kd.R_drewN | apply Kd.R_drew)); exact Kd.R_mono HO161.out (fun _ hk => trivial)⟩, ⟨by repeat (first | (with_reducible first | exact HB.out | apply below_alloc | apply pw_below_drewN | apply below_drew1) | exact HB.out)⟩⟩
end Go.Proofs.Ytcepdndhkidehaa.PA
end
section
namespace Go.Proofs.Ytcepdndhkidehaa.PA
open Go.RowKit Go.Proofs.YtcepdndhkidehaaW.PrintWords Go.Proofs.YtcepdndhkidehaaW.PrintLast Go.Proofs.YtcepdndhkidehaaW.PrintMore
attribute [local go_sem] max2_int min2_int max_two min_two max_three min_three max_four min_four   -- for this text's walks alone
set_option linter.unusedVariables false
set_option linter.unusedSimpArgs false

/-! ### numeraryref02_Mul: function 19 -/
def numeraryref02_Mul.l0 : Nat → List Int → List Int → List Int → Int → Option (List Int)
  | 0, _, _, _, _ => none
  | k + 1, x0, x1, x5, x6 => if x6 ≥ 0 then ((numeraryref02_Times.f k x5 10).bind fun t162 => (if 0 ≤ x6 then (if x6 < (x1.length : Int) then ((numeraryref02_Times.f k x0 (rd x1 x6)).bind fun t166 => ((numeraryref02_Add.f k t162 t166).bind fun t169 => (numeraryref02_Mul.l0 k x0 x1 t169 (wrap64 (x6 - 1))))) else (none)) else (none))) else (some x5)
def numeraryref02_Mul.f (k : Nat) (l0 : List Int) (l1 : List Int) : Option (List Int) := numeraryref02_Mul.l0 k l0 l1 ([] : List Int) (wrap64 ((l1.length : Int) - 1))
theorem numeraryref02_Mul.mono_l : ∀ k, (∀ y0 y1 y2 y3, LeO (numeraryref02_Mul.l0 k y0 y1 y2 y3) (numeraryref02_Mul.l0 (k + 1) y0 y1 y2 y3))
  | 0 => fun _ _ _ _ r h => by simp [numeraryref02_Mul.l0] at h
  | k + 1 => by
    have ih0 := numeraryref02_Mul.mono_l k
    intro y0 y1 y2 y3
    unfold numeraryref02_Mul.l0
    repeat' first
    | (with_reducible exact ih0 _ _ _ _)
    | (with_reducible exact numeraryref02_Add.mono _ _ _)
    | (with_reducible exact numeraryref02_Times.mono _ _ _)
    | (with_reducible exact LeO.refl _)
    | (with_reducible exact LeO.none _)
    | (with_reducible refine LeO.ite ?_ ?_)
    | (with_reducible refine LeO.bind ?_ (fun _ => ?_))
    | exact ih0 _ _ _ _
    | exact numeraryref02_Add.mono _ _ _
    | exact numeraryref02_Times.mono _ _ _
    | exact LeO.none _
    | refine LeO.ite ?_ ?_
    | refine LeO.bind ?_ (fun _ => ?_)
theorem numeraryref02_Mul.mono : ∀ a0 a1 k, LeO (numeraryref02_Mul.f k a0 a1) (numeraryref02_Mul.f (k + 1) a0 a1) := by
  intro a0 a1 k
  have ih0 := numeraryref02_Mul.mono_l k
  unfold numeraryref02_Mul.f
  repeat' first
      | (with_reducible exact ih0 _ _ _ _)
      | (with_reducible exact numeraryref02_Add.mono _ _ _)
      | (with_reducible exact numeraryref02_Times.mono _ _ _)
      | (with_reducible exact LeO.refl _)
      | (with_reducible exact LeO.none _)
      | (with_reducible refine LeO.ite ?_ ?_)
      | (with_reducible refine LeO.bind ?_ (fun _ => ?_))
set_option maxHeartbeats 8000000 in
set_option maxRecDepth 100000 in
theorem numeraryref02_Mul.calls (k : Nat) (A0 : Option Addr) (c0 : Nat) (l0 : List Int) (A1 : Option Addr) (c1 : Nat) (l1 : List Int) (r : List Int) (w : World) (hr0 : Kd.C (Kd.int .i64) w A0 l0.length l0) (hc0 : l0.length ≤ c0) (hr1 : Kd.C (Kd.int .i64) w A1 l1.length l1) (hc1 : l1.length ≤ c1) (h : numeraryref02_Mul.f k l0 l1 = some r) :
    Calls Try.prog 19 #[.slice A0 l0.length c0, .slice A1 l1.length c1] w fun e w' => ∃ v0_ : Value, e = .returned (v0_) ∧ Kd.R (Kd.int .i64) 3 w' w.heap.size (fun _ => True) v0_ r ∧ Below w.heap.size w w' := by
  have HR0 := Aside0.mk hr0
  have HC0 := Aside0.mk hc0
  clear hr0 hc0
  have HR1 := Aside0.mk hr1
  have HC1 := Aside0.mk hc1
  clear hr1 hc1
  have HB := Aside0.mk (Below.refl w.heap.size w)
  have H : (numeraryref02_Mul.l0 k l0 l1 ([] : List Int) (wrap64 ((l1.length : Int) - 1))) = some r := h
  clear h
  have H' := Aside0.mk H
  clear H
  go_enter Try.func19, Try.ntmps19
  go_wp2
  (try simp only [Act.put, List.setIfInBounds_toArray, List.set_cons_zero, List.set_cons_succ])
  go_loopg [5, 6] k (fun kq v5 v6 w' => ∃ (x5_1 : List Int) (x6_1 : Int), v6 = .int .i64 x6_1 ∧ Aside0 (numeraryref02_Mul.l0 kq l0 l1 x5_1 x6_1 = some r) ∧ Aside0 (kq ≤ k) ∧ Aside0 (Kd.R (Kd.int .i64) 3 w' w.heap.size (fun _ => True) v5 x5_1) ∧ Aside0 (Below w.heap.size w w'))
  case atStart => exact ⟨(([] : List Int)), (wrap64 ((l1.length : Int) - 1)), rfl, H', ⟨Nat.le_refl _⟩, ⟨by first | exact Kd.R_nil _ _ _ _ _ | exact Kd.N_nil _ _ _ _ _ | exact Kd.V_nil _ _ _ _ _ | exact Kd.Q_nil _ _ _ _ _ | exact Kd.S_nil _ _ _ _ _⟩, ⟨by repeat (first | (with_reducible first | exact HB.out | apply below_alloc | apply pw_below_drewN | apply below_drew1) | exact HB.out)⟩⟩
  case round =>
    clear H'
    try clear c1
    try clear p2
    obtain ⟨x5_1, x6_1, rfl, HA, HK1, HO_5, HB⟩ := hrel
    cases gk with
    | zero => exact absurd HA.out (by simp [numeraryref02_Mul.l0])
    | succ k1 =>
      have H := HA.out
      clear HA
      simp only [numeraryref02_Mul.l0] at H
      by_cases c3 : x6_1 ≥ 0
      rotate_left
      · rw [if_neg c3] at H
        have c3b0 : decide (0 ≤ x6_1) = false := decide_eq_false c3
        clear c3
        obtain rfl := Option.some.inj H
        go_wp2
        go_ret
        exact ⟨_, rfl, by (with_reducible repeat (first | apply Kd.R_alloc | apply Kd.R_drewN | apply Kd.R_drew)); exact HO_5.out, by repeat (first | (with_reducible first | exact HB.out | apply below_alloc | apply pw_below_drewN | apply below_drew1) | exact HB.out)⟩

      rw [if_pos c3] at H
      have c3b0 : decide (0 ≤ x6_1) = true := decide_eq_true c3
      clear c3
      replace H := Option.bind_eq_some_iff.mp H
      obtain ⟨t162, A40, H⟩ := H
      have A4 := Aside0.mk A40
      clear A40
      by_cases c5 : 0 ≤ x6_1
      rotate_left
      · rw [if_neg c5] at H
        exact absurd H (by simp)
      rw [if_pos c5] at H
      have c5b0 : decide (0 ≤ x6_1) = true := decide_eq_true c5
      clear c5
      by_cases c6 : x6_1 < (l1.length : Int)
      rotate_left
      · rw [if_neg c6] at H
        exact absurd H (by simp)
      rw [if_pos c6] at H
      have c6b0 : decide (x6_1 < (l1.length : Int)) = true := decide_eq_true c6
      clear c6
      replace H := Option.bind_eq_some_iff.mp H
      obtain ⟨t166, A70, H⟩ := H
      have A7 := Aside0.mk A70
      clear A70
      replace H := Option.bind_eq_some_iff.mp H
      obtain ⟨t169, A80, H⟩ := H
      have A8 := Aside0.mk A80
      clear A80
      have H' := Aside0.mk H
      clear H
      obtain ⟨Ao9, co9, eo9⟩ := Kd.R_slice HO_5.out
      subst eo9
      go_wp2_with (first | ((with_reducible refine gate_callee (f := 20) rfl ?_); refine goesL_ (some 16) rfl rfl Try.func20 (by kernel_rfl) rfl #[.slice Ao9 x5_1.length co9, .int .i64 10] rfl (by (try simp only [List.map_toArray, List.map_cons, List.map_nil]); first | done | rfl | (simp only [List.length_drop, List.length_take]; rfl)) ?_; (with_reducible refine (numeraryref02_Times.calls k1 _ _ x5_1 10 t162 _ ?side1 ?side2 A4.out).mono ?_); (case side1 => repeat (first | exact (Kd.R_reads' HO_5.out).2.2 | (with_reducible refine Kd.C_alloc ?_ _) | (with_reducible refine Kd.C_drewN ?_ _) | (with_reducible refine Kd.C_drew ?_))); (case side2 => exact (Kd.R_reads' HO_5.out).2.1); rintro e w10 ⟨v163, rfl, ho0, hb⟩; refine ⟨_, rfl, ?_⟩; have HO164 := Aside0.mk (Kd.R_lower (Kd.R_new' ho0 (Kd.R_lt (by (with_reducible repeat (first | apply Kd.R_alloc | apply Kd.R_drewN | apply Kd.R_drew)); exact HO_5.out))) (below_size (by repeat (first | (with_reducible first | exact HB.out | apply below_alloc | apply pw_below_drewN | apply below_drew1) | exact HB.out)))); replace HO_5 := Aside0.mk (Kd.R_elder' (by (with_reducible repeat (first | apply Kd.R_alloc | apply Kd.R_drewN | apply Kd.R_drew)); exact HO_5.out) (Kd.R_base ho0) hb); replace HB := Aside0.mk (below_step (by repeat (first | (with_reducible first | exact HB.out | apply below_alloc | apply pw_below_drewN | apply below_drew1) | exact HB.out)) hb); have p165 : 0 ≤ (x6_1 : Int) := of_decide_eq_true (by assumption); have q165 : x6_1 < (l1.length : Int) := of_decide_eq_true (by assumption); obtain ⟨ad165, e165, hx165_0⟩ := Kd.at_int HR1.out x6_1 p165 q165; cases e165; replace hx165_0 := (HB.out.cell (World.block_lt_of_cell? w _ hx165_0)).trans hx165_0; replace p165 := eq_true p165; replace q165 := eq_true q165) | ((with_reducible refine gate_callee (f := 20) rfl ?_); refine goesL_ (some 22) rfl rfl Try.func20 (by kernel_rfl) rfl #[.slice A0 l0.length c0, .int .i64 (rd l1 x6_1)] rfl (by (try simp only [List.map_toArray, List.map_cons, List.map_nil]); first | done | rfl | (simp only [List.length_drop, List.length_take]; rfl)) ?_; (with_reducible refine (numeraryref02_Times.calls k1 _ _ l0 (rd l1 x6_1) t166 _ ?side1 ?side2 A7.out).mono ?_); (case side1 => repeat (first | exact (Kd.C_below HR0.out HB.out) | (with_reducible refine Kd.C_alloc ?_ _) | (with_reducible refine Kd.C_drewN ?_ _) | (with_reducible refine Kd.C_drew ?_))); (case side2 => exact HC0.out); rintro e w11 ⟨v167, rfl, ho0, hb⟩; refine ⟨_, rfl, ?_⟩; have HO168 := Aside0.mk (Kd.R_lower (Kd.R_new' (Kd.R_new' ho0 (Kd.R_lt (by (with_reducible repeat (first | apply Kd.R_alloc | apply Kd.R_drewN | apply Kd.R_drew)); exact HO_5.out))) (Kd.R_lt (by (with_reducible repeat (first | apply Kd.R_alloc | apply Kd.R_drewN | apply Kd.R_drew)); exact HO164.out))) (below_size (by repeat (first | (with_reducible first | exact HB.out | apply below_alloc | apply pw_below_drewN | apply below_drew1) | exact HB.out)))); replace HO_5 := Aside0.mk (Kd.R_elder' (by (with_reducible repeat (first | apply Kd.R_alloc | apply Kd.R_drewN | apply Kd.R_drew)); exact HO_5.out) (Kd.R_base ho0) hb); replace HO164 := Aside0.mk (Kd.R_elder' (by (with_reducible repeat (first | apply Kd.R_alloc | apply Kd.R_drewN | apply Kd.R_drew)); exact HO164.out) (Kd.R_base ho0) hb); replace HB := Aside0.mk (below_step (by repeat (first | (with_reducible first | exact HB.out | apply below_alloc | apply pw_below_drewN | apply below_drew1) | exact HB.out)) hb); obtain ⟨Ao12, co12, eo12⟩ := Kd.R_slice HO164.out; subst eo12; obtain ⟨Ao13, co13, eo13⟩ := Kd.R_slice HO168.out; subst eo13) | ((with_reducible refine gate_callee (f := 39) rfl ?_); refine goesL_ (some 25) rfl rfl Try.func39 (by kernel_rfl) rfl #[.slice Ao12 t162.length co12, .slice Ao13 t166.length co13] rfl (by (try simp only [List.map_toArray, List.map_cons, List.map_nil]); first | done | rfl | (simp only [List.length_drop, List.length_take]; rfl)) ?_; (with_reducible refine (numeraryref02_Add.calls k1 _ _ t162 _ _ t166 t169 _ ?side1 ?side2 ?side3 ?side4 A8.out).mono ?_); (case side1 => repeat (first | exact (Kd.R_reads' HO164.out).2.2 | (with_reducible refine Kd.C_alloc ?_ _) | (with_reducible refine Kd.C_drewN ?_ _) | (with_reducible refine Kd.C_drew ?_))); (case side2 => exact (Kd.R_reads' HO164.out).2.1); (case side3 => repeat (first | exact (Kd.R_reads' HO168.out).2.2 | (with_reducible refine Kd.C_alloc ?_ _) | (with_reducible refine Kd.C_drewN ?_ _) | (with_reducible refine Kd.C_drew ?_))); (case side4 => exact (Kd.R_reads' HO168.out).2.1); rintro e w14 ⟨v170, rfl, ho0, hb⟩; refine ⟨_, rfl, ?_⟩; have HO171 := Aside0.mk (Kd.R_lower (Kd.R_new' (Kd.R_new' (Kd.R_new' ho0 (Kd.R_lt (by (with_reducible repeat (first | apply Kd.R_alloc | apply Kd.R_drewN | apply Kd.R_drew)); exact HO_5.out))) (Kd.R_lt (by (with_reducible repeat (first | apply Kd.R_alloc | apply Kd.R_drewN | apply Kd.R_drew)); exact HO164.out))) (Kd.R_lt (by (with_reducible repeat (first | apply Kd.R_alloc | apply Kd.R_drewN | apply Kd.R_drew)); exact HO168.out))) (below_size (by repeat (first | (with_reducible first | exact HB.out | apply below_alloc | apply pw_below_drewN | apply below_drew1) | exact HB.out)))); replace HO_5 := Aside0.mk (Kd.R_elder' (by (with_reducible repeat (first | apply Kd.R_alloc | apply Kd.R_drewN | apply Kd.R_drew)); exact HO_5.out) (Kd.R_base ho0) hb); replace HO164 := Aside0.mk (Kd.R_elder' (by (with_reducible repeat (first | apply Kd.R_alloc | apply Kd.R_drewN | apply Kd.R_drew)); exact HO164.out) (Kd.R_base ho0) hb); replace HO168 := Aside0.mk (Kd.R_elder' (by (with_reducible repeat (first | apply Kd.R_alloc | apply Kd.R_drewN | apply Kd.R_drew)); exact HO168.out) (Kd.R_base ho0) hb); replace HB := Aside0.mk (below_step (by repeat (first | (with_reducible first | exact HB.out | apply below_alloc | apply pw_below_drewN | apply below_drew1) | exact HB.out)) hb)))
      go_roundg k1
      case measure => have := HK1.out; omega
      case rel => exact ⟨(t169), (wrap64 (x6_1 - 1)), rfl, H', ⟨by have := HK1.out; omega⟩, ⟨by (with_reducible repeat (first | apply Kd.R_alloc | apply Kd.R_drewN | apply Kd.R_drew)); exact Kd.R_mono HO171.out (fun _ hk => trivial)⟩, ⟨by repeat (first | (with_reducible first | exact HB.out | apply below_alloc | apply pw_below_drewN | apply below_drew1) | exact HB.out)⟩⟩
end Go.Proofs.Ytcepdndhkidehaa.PA
end
section
namespace Go.Proofs.Ytcepdndhkidehaa.PA
open Go.RowKit Go.Proofs.YtcepdndhkidehaaW.PrintWords Go.Proofs.YtcepdndhkidehaaW.PrintLast Go.Proofs.YtcepdndhkidehaaW.PrintMore
attribute [local go_sem] max2_int min2_int max_two min_two max_three min_three max_four min_four   -- for this text's walks alone
set_option linter.unusedVariables false
set_option linter.unusedSimpArgs false

/-! ### numeraryref02_Sub: function 40 -/
def numeraryref02_Sub.l0 : Nat → List Int → List Int → List Int → Int → Int → Option (List Int)
  | 0, _, _, _, _, _ => none
  | k + 1, x0, x1, x5, x6, x7 => if x7 < (x0.length : Int) then ((numeraryref02_at.f x1 x7).bind fun t482 => (if 0 ≤ x7 then (if (wrap64 ((wrap64 ((rd x0 x7) - t482)) - x6)) < 0 then (if x5.length < 17592186044416 then (numeraryref02_Sub.l0 k x0 x1 (x5 ++ [wrap64 ((wrap64 ((wrap64 ((rd x0 x7) - t482)) - x6)) + 10)]) 1 (wrap64 (x7 + 1))) else (none)) else (if x5.length < 17592186044416 then (numeraryref02_Sub.l0 k x0 x1 (x5 ++ [wrap64 ((wrap64 ((rd x0 x7) - t482)) - x6)]) 0 (wrap64 (x7 + 1))) else (none))) else (none))) else ((numeraryref02_trim.f k x5).bind fun t490 => (some t490))
def numeraryref02_Sub.f (k : Nat) (l0 : List Int) (l1 : List Int) : Option (List Int) := numeraryref02_Sub.l0 k l0 l1 ([] : List Int) 0 0
theorem numeraryref02_Sub.mono_l : ∀ k, (∀ y0 y1 y2 y3 y4, LeO (numeraryref02_Sub.l0 k y0 y1 y2 y3 y4) (numeraryref02_Sub.l0 (k + 1) y0 y1 y2 y3 y4))
  | 0 => fun _ _ _ _ _ r h => by simp [numeraryref02_Sub.l0] at h
  | k + 1 => by
    have ih0 := numeraryref02_Sub.mono_l k
    intro y0 y1 y2 y3 y4
    unfold numeraryref02_Sub.l0
    repeat' first
    | (with_reducible exact ih0 _ _ _ _ _)
    | (with_reducible exact numeraryref02_trim.mono _ _)
    | (with_reducible exact LeO.refl _)
    | (with_reducible exact LeO.none _)
    | (with_reducible refine LeO.ite ?_ ?_)
    | (with_reducible refine LeO.bind ?_ (fun _ => ?_))
    | exact ih0 _ _ _ _ _
    | exact numeraryref02_trim.mono _ _
    | exact LeO.none _
    | refine LeO.ite ?_ ?_
    | refine LeO.bind ?_ (fun _ => ?_)
theorem numeraryref02_Sub.mono : ∀ a0 a1 k, LeO (numeraryref02_Sub.f k a0 a1) (numeraryref02_Sub.f (k + 1) a0 a1) := by
  intro a0 a1 k
  have ih0 := numeraryref02_Sub.mono_l k
  unfold numeraryref02_Sub.f
  repeat' first
      | (with_reducible exact ih0 _ _ _ _ _)
      | (with_reducible exact numeraryref02_trim.mono _ _)
      | (with_reducible exact LeO.refl _)
      | (with_reducible exact LeO.none _)
      | (with_reducible refine LeO.ite ?_ ?_)
      | (with_reducible refine LeO.bind ?_ (fun _ => ?_))
set_option maxHeartbeats 8000000 in
set_option maxRecDepth 100000 in
theorem numeraryref02_Sub.calls (k : Nat) (A0 : Option Addr) (c0 : Nat) (l0 : List Int) (A1 : Option Addr) (c1 : Nat) (l1 : List Int) (r : List Int) (w : World) (hr0 : Kd.C (Kd.int .i64) w A0 l0.length l0) (hc0 : l0.length ≤ c0) (hr1 : Kd.C (Kd.int .i64) w A1 l1.length l1) (hc1 : l1.length ≤ c1) (h : numeraryref02_Sub.f k l0 l1 = some r) :
    Calls Try.prog 40 #[.slice A0 l0.length c0, .slice A1 l1.length c1] w fun e w' => ∃ v0_ : Value, e = .returned (v0_) ∧ Kd.R (Kd.int .i64) 3 w' w.heap.size (fun _ => True) v0_ r ∧ Below w.heap.size w w' := by
  have HR0 := Aside0.mk hr0
  have HC0 := Aside0.mk hc0
  clear hr0 hc0
  have HR1 := Aside0.mk hr1
  have HC1 := Aside0.mk hc1
  clear hr1 hc1
  have HB := Aside0.mk (Below.refl w.heap.size w)
  have H : (numeraryref02_Sub.l0 k l0 l1 ([] : List Int) 0 0) = some r := h
  clear h
  have H' := Aside0.mk H
  clear H
  go_enter Try.func40, Try.ntmps40
  go_wp2
  (try simp only [Act.put, List.setIfInBounds_toArray, List.set_cons_zero, List.set_cons_succ])
  go_loopg [5, 6, 7] k (fun kq v5 v6 v7 w' => ∃ (x5_1 : List Int) (x6_1 : Int) (x7_1 : Int), v6 = .int .i64 x6_1 ∧ v7 = .int .i64 x7_1 ∧ Aside0 (numeraryref02_Sub.l0 kq l0 l1 x5_1 x6_1 x7_1 = some r) ∧ Aside0 (kq ≤ k) ∧ Aside0 (Kd.R (Kd.int .i64) 3 w' w.heap.size (fun _ => True) v5 x5_1) ∧ Aside0 (Below w.heap.size w w'))
  case atStart => exact ⟨(([] : List Int)), (0), (0), rfl, rfl, H', ⟨Nat.le_refl _⟩, ⟨by first | exact Kd.R_nil _ _ _ _ _ | exact Kd.N_nil _ _ _ _ _ | exact Kd.V_nil _ _ _ _ _ | exact Kd.Q_nil _ _ _ _ _ | exact Kd.S_nil _ _ _ _ _⟩, ⟨by repeat (first | (with_reducible first | exact HB.out | apply below_alloc | apply pw_below_drewN | apply below_drew1) | exact HB.out)⟩⟩
  case round =>
    clear H'
    try clear c1
    try clear p2
    obtain ⟨x5_1, x6_1, x7_1, rfl, rfl, HA, HK1, HO_5, HB⟩ := hrel
    cases gk with
    | zero => exact absurd HA.out (by simp [numeraryref02_Sub.l0])
    | succ k1 =>
      have H := HA.out
      clear HA
      simp only [numeraryref02_Sub.l0] at H
      by_cases c3 : x7_1 < (l0.length : Int)
      rotate_left
      · rw [if_neg c3] at H
        have c3b0 : decide (x7_1 < (l0.length : Int)) = false := decide_eq_false c3
        clear c3
        replace H := Option.bind_eq_some_iff.mp H
        obtain ⟨t490, A110, H⟩ := H
        have A11 := Aside0.mk A110
        clear A110
        obtain rfl := Option.some.inj H
        obtain ⟨Ao12, co12, eo12⟩ := Kd.R_slice HO_5.out
        subst eo12
        go_wp2_with (first | ((with_reducible refine gate_callee (f := 50) rfl ?_); refine goesL_ (some 36) rfl rfl Try.func50 (by kernel_rfl) rfl #[.slice Ao12 x5_1.length co12] rfl (by (try simp only [List.map_toArray, List.map_cons, List.map_nil]); first | done | rfl | (simp only [List.length_drop, List.length_take]; rfl)) ?_; (with_reducible refine (numeraryref02_trim.calls k1 (fun k_ => some k_ = (.slice Ao12 x5_1.length co12 : Value).ownBlock) (.slice Ao12 x5_1.length co12) x5_1 t490 w _ ?side1 ?side2 A11.out).mono ?_); (case side1 => repeat (first | (with_reducible first | exact HB.out | apply below_alloc | apply pw_below_drewN | apply below_drew1) | exact HB.out)); (case side2 => exact Kd.R_tight rfl HO_5.out); rintro e w13 ⟨v491, rfl, ho0, hb, hkp⟩; refine ⟨_, rfl, ?_⟩; have n0_ := Aside0.mk (Kd.R_mono (ok' := fun k_ => True) ho0 (fun k_ hk_ => trivial)); have n1_ := Aside0.mk (hb); clear HB; clear HO_5; have HO492 := n0_; have HB := n1_; clear n0_ n1_))
        go_ret
        exact ⟨_, rfl, by (with_reducible repeat (first | apply Kd.R_alloc | apply Kd.R_drewN | apply Kd.R_drew)); exact HO492.out, by repeat (first | (with_reducible first | exact HB.out | apply below_alloc | apply pw_below_drewN | apply below_drew1) | exact HB.out)⟩

      rw [if_pos c3] at H
      have c3b0 : decide (x7_1 < (l0.length : Int)) = true := decide_eq_true c3
      clear c3
      replace H := Option.bind_eq_some_iff.mp H
      obtain ⟨t482, A40, H⟩ := H
      have A4 := Aside0.mk A40
      clear A40
      by_cases c5 : 0 ≤ x7_1
      rotate_left
      · rw [if_neg c5] at H
        exact absurd H (by simp)
      rw [if_pos c5] at H
      have c5b0 : decide (0 ≤ x7_1) = true := decide_eq_true c5
      clear c5
      by_cases c6 : (wrap64 ((wrap64 ((rd l0 x7_1) - t482)) - x6_1)) < 0
      rotate_left
      · rw [if_neg c6] at H
        have c6b0 : decide ((wrap64 ((wrap64 ((rd l0 x7_1) - t482)) - x6_1)) < 0) = false := decide_eq_false c6
        clear c6
        by_cases c9 : x5_1.length < 17592186044416
        rotate_left
        · rw [if_neg c9] at H
          exact absurd H (by simp)
        rw [if_pos c9] at H
        have LMc9 := Aside0.mk c9
        clear c9
        obtain ⟨y487, hy487⟩ : ∃ y_ : List Int, y_ = (x5_1 ++ [wrap64 ((wrap64 ((rd l0 x7_1) - t482)) - x6_1)]) := ⟨_, rfl⟩
        replace H : (numeraryref02_Sub.l0 k1 l0 l1 y487 0 (wrap64 (x7_1 + 1))) = some r := by first | (rw [hy487]; with_reducible exact H) | (have H2_ := (Option.bind_some _ _).symm.trans H; rw [hy487]; with_reducible exact H2_) | (have H2_ := (Option.bind_some _ _).symm.trans H; with_reducible exact H2_) | with_reducible exact H | (rw [hy487]; exact H) | exact H
        have Ny487 := Aside0.mk hy487
        clear hy487
        have H' := Aside0.mk H
        clear H
        go_wp2_with (first | ((with_reducible refine gate_callee (f := 49) rfl ?_); refine goesL_ (some 18) rfl rfl Try.func49 (by kernel_rfl) rfl #[.slice A1 l1.length c1, .int .i64 x7_1] rfl (by (try simp only [List.map_toArray, List.map_cons, List.map_nil]); first | done | rfl | (simp only [List.length_drop, List.length_take]; rfl)) ?_; (with_reducible refine (numeraryref02_at.calls _ _ l1 x7_1 t482 _ ?side1 ?side2 A4.out).mono ?_); (case side1 => repeat (first | exact (Kd.C_below HR1.out HB.out) | (with_reducible refine Kd.C_alloc ?_ _) | (with_reducible refine Kd.C_drewN ?_ _) | (with_reducible refine Kd.C_drew ?_))); (case side2 => exact HC1.out); rintro e w' ⟨rfl, ⟨nd, rfl⟩⟩; refine ⟨_, rfl, ?_⟩; have p483 : 0 ≤ (x7_1 : Int) := of_decide_eq_true (by assumption); have q483 : x7_1 < (l0.length : Int) := of_decide_eq_true (by assumption); obtain ⟨ad483, e483, hx483_0⟩ := Kd.at_int HR0.out x7_1 p483 q483; cases e483; replace hx483_0 := (HB.out.cell (World.block_lt_of_cell? w _ hx483_0)).trans hx483_0; replace p483 := eq_true p483; replace q483 := eq_true q483) | ((with_reducible refine gate_builtin (b := .append) (xs := #[.tmp 31, .tmp 33]) rfl ?_); at_builtin; refine Kd.R_append (Kd.int .i64) (w0 := w) w.heap.size rfl (.tmp 31) (.tmp 33) 28 3 (.int .i64 0) 8 rfl Try.underlying28 info3 rfl (by decide) (by omega) u5 x5_1 (wrap64 ((wrap64 ((rd l0 x7_1) - t482)) - x6_1)) [.int .i64 (wrap64 ((wrap64 ((rd l0 x7_1) - t482)) - x6_1))] (fun _ => True) (fun _ => False) rfl rfl ?aP (fun _ hk => hk.elim) ?aF ?aO ?aB ?aS ?aL ?_; (case aP => exact rfl); (case aB => exact (by repeat (first | (with_reducible first | exact HB.out | apply below_alloc | apply pw_below_drewN | apply below_drew1) | exact HB.out))); (case aF => exact (fun _ _ => trivial)); (case aO => exact (by (with_reducible repeat (first | apply Kd.R_alloc | apply Kd.R_drewN | apply Kd.R_drew)); exact HO_5.out)); (case aS => exact (below_size (by repeat (first | (with_reducible first | exact HB.out | apply below_alloc | apply pw_below_drewN | apply below_drew1) | exact HB.out)))); (case aL => have := LMc9.out; omega); intro v488 w10 ho hb hg hat; rw [← Ny487.out] at ho; have n0_ := Aside0.mk (hb); have n1_ := Aside0.mk (ho); clear HB; clear HO_5; have HB := n0_; have HO489 := n1_; clear n0_ n1_; clear ho hb hg hat))
        go_roundg k1
        case measure => have := HK1.out; omega
        case rel => exact ⟨(y487), (0), (wrap64 (x7_1 + 1)), rfl, rfl, H', ⟨by have := HK1.out; omega⟩, ⟨by (with_reducible repeat (first | apply Kd.R_alloc | apply Kd.R_drewN | apply Kd.R_drew)); exact HO489.out⟩, ⟨by repeat (first | (with_reducible first | exact HB.out | apply below_alloc | apply pw_below_drewN | apply below_drew1) | exact HB.out)⟩⟩
      rw [if_pos c6] at H
      have c6b0 : decide ((wrap64 ((wrap64 ((rd l0 x7_1) - t482)) - x6_1)) < 0) = true := decide_eq_true c6
      clear c6
      by_cases c7 : x5_1.length < 17592186044416
      rotate_left
      · rw [if_neg c7] at H
        exact absurd H (by simp)
      rw [if_pos c7] at H
      have LMc7 := Aside0.mk c7
      clear c7
      obtain ⟨y484, hy484⟩ : ∃ y_ : List Int, y_ = (x5_1 ++ [wrap64 ((wrap64 ((wrap64 ((rd l0 x7_1) - t482)) - x6_1)) + 10)]) := ⟨_, rfl⟩
      replace H : (numeraryref02_Sub.l0 k1 l0 l1 y484 1 (wrap64 (x7_1 + 1))) = some r := by first | (rw [hy484]; with_reducible exact H) | (have H2_ := (Option.bind_some _ _).symm.trans H; rw [hy484]; with_reducible exact H2_) | (have H2_ := (Option.bind_some _ _).symm.trans H; with_reducible exact H2_) | with_reducible exact H | (rw [hy484]; exact H) | exact H
      have Ny484 := Aside0.mk hy484
      clear hy484
      have H' := Aside0.mk H
      clear H
      go_wp2_with (first | ((with_reducible refine gate_callee (f := 49) rfl ?_); refine goesL_ (some 18) rfl rfl Try.func49 (by kernel_rfl) rfl #[.slice A1 l1.length c1, .int .i64 x7_1] rfl (by (try simp only [List.map_toArray, List.map_cons, List.map_nil]); first | done | rfl | (simp only [List.length_drop, List.length_take]; rfl)) ?_; (with_reducible refine (numeraryref02_at.calls _ _ l1 x7_1 t482 _ ?side1 ?side2 A4.out).mono ?_); (case side1 => repeat (first | exact (Kd.C_below HR1.out HB.out) | (with_reducible refine Kd.C_alloc ?_ _) | (with_reducible refine Kd.C_drewN ?_ _) | (with_reducible refine Kd.C_drew ?_))); (case side2 => exact HC1.out); rintro e w' ⟨rfl, ⟨nd, rfl⟩⟩; refine ⟨_, rfl, ?_⟩; have p483 : 0 ≤ (x7_1 : Int) := of_decide_eq_true (by assumption); have q483 : x7_1 < (l0.length : Int) := of_decide_eq_true (by assumption); obtain ⟨ad483, e483, hx483_0⟩ := Kd.at_int HR0.out x7_1 p483 q483; cases e483; replace hx483_0 := (HB.out.cell (World.block_lt_of_cell? w _ hx483_0)).trans hx483_0; replace p483 := eq_true p483; replace q483 := eq_true q483) | ((with_reducible refine gate_builtin (b := .append) (xs := #[.tmp 31, .tmp 33]) rfl ?_); at_builtin; refine Kd.R_append (Kd.int .i64) (w0 := w) w.heap.size rfl (.tmp 31) (.tmp 33) 28 3 (.int .i64 0) 8 rfl Try.underlying28 info3 rfl (by decide) (by omega) u5 x5_1 (wrap64 ((wrap64 ((wrap64 ((rd l0 x7_1) - t482)) - x6_1)) + 10)) [.int .i64 (wrap64 ((wrap64 ((wrap64 ((rd l0 x7_1) - t482)) - x6_1)) + 10))] (fun _ => True) (fun _ => False) rfl rfl ?aP (fun _ hk => hk.elim) ?aF ?aO ?aB ?aS ?aL ?_; (case aP => exact rfl); (case aB => exact (by repeat (first | (with_reducible first | exact HB.out | apply below_alloc | apply pw_below_drewN | apply below_drew1) | exact HB.out))); (case aF => exact (fun _ _ => trivial)); (case aO => exact (by (with_reducible repeat (first | apply Kd.R_alloc | apply Kd.R_drewN | apply Kd.R_drew)); exact HO_5.out)); (case aS => exact (below_size (by repeat (first | (with_reducible first | exact HB.out | apply below_alloc | apply pw_below_drewN | apply below_drew1) | exact HB.out)))); (case aL => have := LMc7.out; omega); intro v485 w8 ho hb hg hat; rw [← Ny484.out] at ho; have n0_ := Aside0.mk (hb); have n1_ := Aside0.mk (ho); clear HB; clear HO_5; have HB := n0_; have HO486 := n1_; clear n0_ n1_; clear ho hb hg hat))
      go_roundg k1
      case measure => have := HK1.out; omega
      case rel => exact ⟨(y484), (1), (wrap64 (x7_1 + 1)), rfl, rfl, H', ⟨by have := HK1.out; omega⟩, ⟨by (with_reducible repeat (first | apply Kd.R_alloc | apply Kd.R_drewN | apply Kd.R_drew)); exact HO486.out⟩, ⟨by repeat (first | (with_reducible first | exact HB.out | apply below_alloc | apply pw_below_drewN | apply below_drew1) | exact HB.out)⟩⟩
end Go.Proofs.Ytcepdndhkidehaa.PA
end
section
namespace Go.Proofs.Ytcepdndhkidehaa.PA
open Go.RowKit Go.Proofs.YtcepdndhkidehaaW.PrintWords Go.Proofs.YtcepdndhkidehaaW.PrintLast Go.Proofs.YtcepdndhkidehaaW.PrintMore
attribute [local go_sem] max2_int min2_int max_two min_two max_three min_three max_four min_four   -- for this text's walks alone
set_option linter.unusedVariables false
set_option linter.unusedSimpArgs false

/-! ### numeraryref02_Cmp: function 22 -/
def numeraryref02_Cmp.l0 : Nat → List Int → List Int → Int → Option (Int)
  | 0, _, _, _ => none
  | k + 1, x0, x1, x5 => if x5 ≥ 0 then (if 0 ≤ x5 then (if x5 < (x0.length : Int) then (if x5 < (x1.length : Int) then (if (rd x0 x5) < (rd x1 x5) then (some (-1)) else (if (rd x0 x5) > (rd x1 x5) then (some 1) else (numeraryref02_Cmp.l0 k x0 x1 (wrap64 (x5 - 1))))) else (none)) else (none)) else (none)) else (some 0)
def numeraryref02_Cmp.f (k : Nat) (l0 : List Int) (l1 : List Int) : Option (Int) := if (l0.length : Int) = (l1.length : Int) then (numeraryref02_Cmp.l0 k l0 l1 (wrap64 ((l0.length : Int) - 1))) else (if (l0.length : Int) < (l1.length : Int) then (some (-1)) else (some 1))
theorem numeraryref02_Cmp.mono_l : ∀ k, (∀ y0 y1 y2, LeO (numeraryref02_Cmp.l0 k y0 y1 y2) (numeraryref02_Cmp.l0 (k + 1) y0 y1 y2))
  | 0 => fun _ _ _ r h => by simp [numeraryref02_Cmp.l0] at h
  | k + 1 => by
    have ih0 := numeraryref02_Cmp.mono_l k
    intro y0 y1 y2
    unfold numeraryref02_Cmp.l0
    repeat' first
    | (with_reducible exact ih0 _ _ _)
    | (with_reducible exact LeO.refl _)
    | (with_reducible exact LeO.none _)
    | (with_reducible refine LeO.ite ?_ ?_)
    | (with_reducible refine LeO.bind ?_ (fun _ => ?_))
    | exact ih0 _ _ _
    | exact LeO.none _
    | refine LeO.ite ?_ ?_
    | refine LeO.bind ?_ (fun _ => ?_)
theorem numeraryref02_Cmp.mono : ∀ a0 a1 k, LeO (numeraryref02_Cmp.f k a0 a1) (numeraryref02_Cmp.f (k + 1) a0 a1) := by
  intro a0 a1 k
  have ih0 := numeraryref02_Cmp.mono_l k
  unfold numeraryref02_Cmp.f
  repeat' first
      | (with_reducible exact ih0 _ _ _)
      | (with_reducible exact LeO.refl _)
      | (with_reducible exact LeO.none _)
      | (with_reducible refine LeO.ite ?_ ?_)
      | (with_reducible refine LeO.bind ?_ (fun _ => ?_))
set_option maxHeartbeats 8000000 in
set_option maxRecDepth 100000 in
theorem numeraryref02_Cmp.calls (k : Nat) (A0 : Option Addr) (c0 : Nat) (l0 : List Int) (A1 : Option Addr) (c1 : Nat) (l1 : List Int) (r : Int) (w : World) (hr0 : Kd.C (Kd.int .i64) w A0 l0.length l0) (hc0 : l0.length ≤ c0) (hr1 : Kd.C (Kd.int .i64) w A1 l1.length l1) (hc1 : l1.length ≤ c1) (h : numeraryref02_Cmp.f k l0 l1 = some r) :
    Calls Try.prog 22 #[.slice A0 l0.length c0, .slice A1 l1.length c1] w fun e w' => e = .returned (.int .i64 r) ∧ Drawn0 w w' := by
  have HR0 := Aside0.mk hr0
  have HC0 := Aside0.mk hc0
  clear hr0 hc0
  have HR1 := Aside0.mk hr1
  have HC1 := Aside0.mk hc1
  clear hr1 hc1
  have H : (if (l0.length : Int) = (l1.length : Int) then (numeraryref02_Cmp.l0 k l0 l1 (wrap64 ((l0.length : Int) - 1))) else (if (l0.length : Int) < (l1.length : Int) then (some (-1)) else (some 1))) = some r := h
  clear h
  by_cases c3 : (l0.length : Int) = (l1.length : Int)
  rotate_left
  · rw [if_neg c3] at H
    have c3b0 : ((l0.length : Int) == (l1.length : Int)) = false := beq_eq_false_iff_ne.mpr c3
    have c3b1 : ((l0.length : Int) != (l1.length : Int)) = true := bne_iff_ne.mpr c3
    have c3b2 : (l0.length == l1.length) = false := by first | simpa using c3 | (simp at c3 ⊢; omega)
    by_cases c10 : (l0.length : Int) < (l1.length : Int)
    · rw [if_pos c10] at H
      have c10b0 : decide ((l0.length : Int) < (l1.length : Int)) = true := decide_eq_true c10
      have c10b1 : decide (l0.length < l1.length) = true := decide_eq_true (Int.ofNat_lt.mp c10)
      clear c10
      obtain rfl := Option.some.inj H
      go_enter Try.func22, Try.ntmps22
      go_wp2
      repeat (go_quiet (fail); try go_wp2)
      go_ret
      exact ⟨by first | rfl | (simp; done) | (simp [*]; done), by repeat (first | exact Drawn0.refl _ | apply Drawn0.step)⟩
    rw [if_neg c10] at H
    have c10b0 : decide ((l0.length : Int) < (l1.length : Int)) = false := decide_eq_false c10
    have c10b1 : decide (l0.length < l1.length) = false := decide_eq_false (fun h => c10 (Int.ofNat_lt.mpr h))
    clear c10
    obtain rfl := Option.some.inj H
    go_enter Try.func22, Try.ntmps22
    go_wp2
    repeat (go_quiet (fail); try go_wp2)
    go_ret
    exact ⟨by first | rfl | (simp; done) | (simp [*]; done), by repeat (first | exact Drawn0.refl _ | apply Drawn0.step)⟩

  rw [if_pos c3] at H
  have c3b0 : ((l0.length : Int) == (l1.length : Int)) = true := beq_iff_eq.mpr c3
  have c3b1 : ((l0.length : Int) != (l1.length : Int)) = false := bne_eq_false_iff_eq.mpr c3
  have c3b2 : (l0.length == l1.length) = true := by first | simpa using c3 | (simp at c3 ⊢; omega)
  clear c3
  have H' := Aside0.mk H
  clear H
  go_enter Try.func22, Try.ntmps22
  go_wp2
  repeat (go_quiet (fail); try go_wp2)
  (try simp only [Act.put, List.setIfInBounds_toArray, List.set_cons_zero, List.set_cons_succ])
  go_loopg [5] k (fun kq v5 w' => ∃ (x5_1 : Int), v5 = .int .i64 x5_1 ∧ Aside0 (numeraryref02_Cmp.l0 kq l0 l1 x5_1 = some r) ∧ Aside0 (kq ≤ k) ∧ Drawn0 w w')
  case atStart => exact ⟨(wrap64 ((l0.length : Int) - 1)), rfl, H', ⟨Nat.le_refl _⟩, by repeat (first | exact Drawn0.refl _ | apply Drawn0.step)⟩
  case round =>
    clear H'
    try clear c1
    try clear c2
    try clear p2
    try clear c3
    try clear c3b0
    try clear c3b1
    try clear c3b2
    obtain ⟨x5_1, rfl, HA, HK1, ⟨m1, rfl⟩⟩ := hrel
    cases gk with
    | zero => exact absurd HA.out (by simp [numeraryref02_Cmp.l0])
    | succ k1 =>
      have H := HA.out
      clear HA
      simp only [numeraryref02_Cmp.l0] at H
      by_cases c4 : x5_1 ≥ 0
      rotate_left
      · rw [if_neg c4] at H
        have c4b0 : decide (0 ≤ x5_1) = false := decide_eq_false c4
        clear c4
        obtain rfl := Option.some.inj H
        go_wp2
        repeat (go_quiet (fail); try go_wp2)
        go_ret
        exact ⟨by first | rfl | (simp; done) | (simp [*]; done), by repeat (first | exact Drawn0.refl _ | apply Drawn0.step)⟩
      rw [if_pos c4] at H
      have c4b0 : decide (0 ≤ x5_1) = true := decide_eq_true c4
      clear c4
      by_cases c5 : 0 ≤ x5_1
      rotate_left
      · rw [if_neg c5] at H
        exact absurd H (by simp)
      rw [if_pos c5] at H
      have c5b0 : decide (0 ≤ x5_1) = true := decide_eq_true c5
      clear c5
      by_cases c6 : x5_1 < (l0.length : Int)
      rotate_left
      · rw [if_neg c6] at H
        exact absurd H (by simp)
      rw [if_pos c6] at H
      have c6b0 : decide (x5_1 < (l0.length : Int)) = true := decide_eq_true c6
      clear c6
      by_cases c7 : x5_1 < (l1.length : Int)
      rotate_left
      · rw [if_neg c7] at H
        exact absurd H (by simp)
      rw [if_pos c7] at H
      have c7b0 : decide (x5_1 < (l1.length : Int)) = true := decide_eq_true c7
      clear c7
      by_cases c8 : (rd l0 x5_1) < (rd l1 x5_1)
      · rw [if_pos c8] at H
        have c8b0 : decide ((rd l0 x5_1) < (rd l1 x5_1)) = true := decide_eq_true c8
        clear c8
        obtain rfl := Option.some.inj H
        have p256 : 0 ≤ (x5_1 : Int) := of_decide_eq_true (by assumption)
        have q256 : x5_1 < (l0.length : Int) := of_decide_eq_true (by assumption)
        obtain ⟨ad256, e256, hx256_0⟩ := Kd.at_int HR0.out x5_1 p256 q256
        cases e256
        replace p256 := eq_true p256
        replace q256 := eq_true q256
        have p257 : 0 ≤ (x5_1 : Int) := of_decide_eq_true (by assumption)
        have q257 : x5_1 < (l1.length : Int) := of_decide_eq_true (by assumption)
        obtain ⟨ad257, e257, hx257_0⟩ := Kd.at_int HR1.out x5_1 p257 q257
        cases e257
        replace p257 := eq_true p257
        replace q257 := eq_true q257
        go_wp2
        repeat (go_quiet (fail); try go_wp2)
        go_ret
        exact ⟨by first | rfl | (simp; done) | (simp [*]; done), by repeat (first | exact Drawn0.refl _ | apply Drawn0.step)⟩
      rw [if_neg c8] at H
      have c8b0 : decide ((rd l0 x5_1) < (rd l1 x5_1)) = false := decide_eq_false c8
      clear c8
      by_cases c9 : (rd l0 x5_1) > (rd l1 x5_1)
      · rw [if_pos c9] at H
        have c9b0 : decide ((rd l1 x5_1) < (rd l0 x5_1)) = true := decide_eq_true c9
        clear c9
        obtain rfl := Option.some.inj H
        have p256 : 0 ≤ (x5_1 : Int) := of_decide_eq_true (by assumption)
        have q256 : x5_1 < (l0.length : Int) := of_decide_eq_true (by assumption)
        obtain ⟨ad256, e256, hx256_0⟩ := Kd.at_int HR0.out x5_1 p256 q256
        cases e256
        replace p256 := eq_true p256
        replace q256 := eq_true q256
        have p257 : 0 ≤ (x5_1 : Int) := of_decide_eq_true (by assumption)
        have q257 : x5_1 < (l1.length : Int) := of_decide_eq_true (by assumption)
        obtain ⟨ad257, e257, hx257_0⟩ := Kd.at_int HR1.out x5_1 p257 q257
        cases e257
        replace p257 := eq_true p257
        replace q257 := eq_true q257
        have p258 : 0 ≤ (x5_1 : Int) := of_decide_eq_true (by assumption)
        have q258 : x5_1 < (l0.length : Int) := of_decide_eq_true (by assumption)
        obtain ⟨ad258, e258, hx258_0⟩ := Kd.at_int HR0.out x5_1 p258 q258
        obtain rfl : ad256 = ad258 := (by injection e258)
        replace p258 := eq_true p258
        replace q258 := eq_true q258
        have p259 : 0 ≤ (x5_1 : Int) := of_decide_eq_true (by assumption)
        have q259 : x5_1 < (l1.length : Int) := of_decide_eq_true (by assumption)
        obtain ⟨ad259, e259, hx259_0⟩ := Kd.at_int HR1.out x5_1 p259 q259
        obtain rfl : ad257 = ad259 := (by injection e259)
        replace p259 := eq_true p259
        replace q259 := eq_true q259
        go_wp2
        repeat (go_quiet (fail); try go_wp2)
        go_ret
        exact ⟨by first | rfl | (simp; done) | (simp [*]; done), by repeat (first | exact Drawn0.refl _ | apply Drawn0.step)⟩
      rw [if_neg c9] at H
      have c9b0 : decide ((rd l1 x5_1) < (rd l0 x5_1)) = false := decide_eq_false c9
      clear c9
      have H' := Aside0.mk H
      clear H
      have p256 : 0 ≤ (x5_1 : Int) := of_decide_eq_true (by assumption)
      have q256 : x5_1 < (l0.length : Int) := of_decide_eq_true (by assumption)
      obtain ⟨ad256, e256, hx256_0⟩ := Kd.at_int HR0.out x5_1 p256 q256
      cases e256
      replace p256 := eq_true p256
      replace q256 := eq_true q256
      have p257 : 0 ≤ (x5_1 : Int) := of_decide_eq_true (by assumption)
      have q257 : x5_1 < (l1.length : Int) := of_decide_eq_true (by assumption)
      obtain ⟨ad257, e257, hx257_0⟩ := Kd.at_int HR1.out x5_1 p257 q257
      cases e257
      replace p257 := eq_true p257
      replace q257 := eq_true q257
      have p258 : 0 ≤ (x5_1 : Int) := of_decide_eq_true (by assumption)
      have q258 : x5_1 < (l0.length : Int) := of_decide_eq_true (by assumption)
      obtain ⟨ad258, e258, hx258_0⟩ := Kd.at_int HR0.out x5_1 p258 q258
      obtain rfl : ad256 = ad258 := (by injection e258)
      replace p258 := eq_true p258
      replace q258 := eq_true q258
      have p259 : 0 ≤ (x5_1 : Int) := of_decide_eq_true (by assumption)
      have q259 : x5_1 < (l1.length : Int) := of_decide_eq_true (by assumption)
      obtain ⟨ad259, e259, hx259_0⟩ := Kd.at_int HR1.out x5_1 p259 q259
      obtain rfl : ad257 = ad259 := (by injection e259)
      replace p259 := eq_true p259
      replace q259 := eq_true q259
      go_wp2
      repeat (go_quiet (fail); try go_wp2)
      go_roundg k1
      case measure => have := HK1.out; omega
      case rel => exact ⟨(wrap64 (x5_1 - 1)), rfl, H', ⟨by have := HK1.out; omega⟩, by repeat (first | exact Drawn0.refl _ | apply Drawn0.step)⟩
end Go.Proofs.Ytcepdndhkidehaa.PA
end
section
namespace Go.Proofs.Ytcepdndhkidehaa.M
open Go.RowKit Go.Proofs.YtcepdndhkidehaaW.PrintWords Go.Proofs.YtcepdndhkidehaaW.PrintLast Go.Proofs.YtcepdndhkidehaaW.PrintMore Go.Proofs.Ytcepdndhkidehaa.PA
set_option linter.unusedVariables false
set_option linter.unusedSimpArgs false

/-- A number's limbs, and its decimals. -/
def L (n : Nat) : List Int := nl (dg 4294967296 n)
def D (n : Nat) : List Int := nl (dg 10 n)
theorem b32 : 2 ≤ 4294967296 := by decide
theorem b10 : 2 ≤ 10 := by decide
def ln (n : Nat) : Nat := (dg 4294967296 n).length
def dn (n : Nat) : Nat := (dg 10 n).length
theorem L_length (n : Nat) : (L n).length = ln n := nl_length _
theorem pred_wrap {n : Nat} (h : n ≤ 4611686018427387904) : wrap64 (((n + 1 : Nat) : Int) - 1) = (n : Int) := by rw [wrap_id] <;> omega
theorem succ_wrap {n : Nat} (h : n ≤ 4611686018427387904) : wrap64 ((n : Int) + 1) = ((n + 1 : Nat) : Int) := by rw [wrap_id] <;> omega
theorem clone_nl {l : List Int} (h : l.length ≤ 1099511627776) : slices_Clone_uint32_uint32.f l = some l := by
  unfold slices_Clone_uint32_uint32.f
  rw [Option.bind_some, if_pos (by simp; omega), List.nil_append]
theorem made_loop {l : List Nat} (hl : l.length ≤ 1099511627776) : ∀ n, n ≤ l.length → (∀ i, n ≤ i → gd l i = 0) → Ev (fun k => nat_Made.l0 k (nl l) (n : Int)) (nl (trim l)) := by
  intro n
  have fin : ∀ n, n ≤ l.length → (n = 0 ∨ gd l (n - 1) ≠ 0) → (∀ i, n ≤ i → gd l i = 0) → slices_Clone_uint32_uint32.f ((nl l).take ((n : Int)).toNat) = some (nl (trim l)) := by
    intro n hn h1 h2
    rw [Int.toNat_natCast, nl_take, clone_nl (by rw [nl_length, List.length_take]; omega), trim_take hn h1 h2]
  induction n with
  | zero =>
    intro hn hz
    refine Ev.step (fun k => by rw [nat_Made.l0]) ?_
    refine ev_neg (by omega) (ev_pos (by omega) (ev_pos (by rw [nl_length]; omega) (ev_some (fin 0 hn (.inl rfl) hz) (Ev.now _))))
  | succ n ih =>
    intro hn hz
    refine Ev.step (fun k => by rw [nat_Made.l0, pred_wrap (by omega)]) ?_
    refine ev_pos (by omega) (ev_pos (by omega) (ev_pos (by rw [nl_length]; omega) ?_))
    by_cases h0 : gd l n = 0
    · refine ev_pos (by rw [rd_nl, h0]; rfl) (ih (by omega) fun i hi => ?_)
      rcases Nat.lt_or_eq_of_le hi with h | rfl
      · exact hz i h
      · exact h0
    · refine ev_neg (by rw [rd_nl]; omega) (ev_pos (by omega) (ev_pos (by rw [nl_length]; omega) (ev_some (fin (n + 1) hn (.inr (by simpa using h0)) hz) (Ev.now _))))
theorem made_nl {l : List Nat} (hl : l.length ≤ 1099511627776) : Ev (fun k => nat_Made.f k (nl l)) (nl (trim l)) := by
  have := made_loop hl l.length (Nat.le_refl _) (fun i hi => gd_ge hi)
  unfold nat_Made.f
  rw [nl_length]
  exact this
theorem made_val {l : List Nat} (hl : l.length ≤ 1099511627776) (h : Dg 4294967296 l) : Ev (fun k => nat_Made.f k (nl l)) (L (val 4294967296 l)) := by
  unfold L; rw [dg_val b32 h]; exact made_nl hl

theorem rtrim_loop {l : List Nat} (hl : l.length ≤ 1099511627776) : ∀ n, n ≤ l.length → (∀ i, n ≤ i → gd l i = 0) → Ev (fun k => numeraryref02_trim.l0 k (nl l) (n : Int)) (nl (trim l)) := by
  intro n
  have fin : ∀ n, n ≤ l.length → (n = 0 ∨ gd l (n - 1) ≠ 0) → (∀ i, n ≤ i → gd l i = 0) → (nl l).take ((n : Int)).toNat = nl (trim l) := by
    intro n hn h1 h2
    rw [Int.toNat_natCast, nl_take, trim_take hn h1 h2]
  induction n with
  | zero =>
    intro hn hz
    refine Ev.step (fun k => by rw [numeraryref02_trim.l0]) ?_
    exact ev_neg (by omega) (ev_pos (by omega) (ev_pos (by rw [nl_length]; omega) (ev_now (fin 0 hn (.inl rfl) hz))))
  | succ n ih =>
    intro hn hz
    refine Ev.step (fun k => by rw [numeraryref02_trim.l0, pred_wrap (by omega)]) ?_
    refine ev_pos (by omega) (ev_pos (by omega) (ev_pos (by rw [nl_length]; omega) ?_))
    by_cases h0 : gd l n = 0
    · refine ev_pos (by rw [rd_nl, h0]; rfl) (ih (by omega) fun i hi => ?_)
      rcases Nat.lt_or_eq_of_le hi with h | rfl
      · exact hz i h
      · exact h0
    · exact ev_neg (by rw [rd_nl]; omega) (ev_pos (by omega) (ev_pos (by rw [nl_length]; omega) (ev_now (fin (n + 1) hn (.inr (by simpa using h0)) hz))))
theorem rtrim_val {l : List Nat} (hl : l.length ≤ 1099511627776) (h : Dg 10 l) : Ev (fun k => numeraryref02_trim.f k (nl l)) (D (val 10 l)) := by
  have := rtrim_loop hl l.length (Nat.le_refl _) (fun i hi => gd_ge hi)
  unfold numeraryref02_trim.f D
  rw [nl_length, dg_val b10 h]
  exact this

/-! ### the document's -/
theorem rat_nl (l : List Nat) (i : Nat) : numeraryref02_at.f (nl l) (i : Int) = some ((gd l i : Nat) : Int) := by
  unfold numeraryref02_at.f
  by_cases h : i < l.length
  · rw [if_pos (by rw [nl_length]; omega), if_pos (by omega), rd_nl]
  · rw [if_neg (by rw [nl_length]; omega), gd_ge (by omega)]; rfl
theorem nat_at_nl (l : List Nat) (i : Nat) : nat_Nat_at.f (nl l) (i : Int) = some ((gd l i : Nat) : Int) := by
  unfold nat_Nat_at.f
  by_cases h : i < l.length
  · rw [if_pos (by rw [nl_length]; omega), if_pos (by omega), rd_nl]
  · rw [if_neg (by rw [nl_length]; omega), gd_ge (by omega)]; rfl

theorem rof_loop : ∀ (n : Nat) (out : List Nat), n < 18446744073709551616 → out.length + (dg 10 n).length ≤ 1000 → Ev (fun k => numeraryref02_Of.l0 k (n : Int) (nl out)) (nl (out ++ dg 10 n)) := by
  intro n
  induction n using Nat.strongRecOn with
  | _ n ih =>
    intro out hn hl
    refine Ev.step (fun k => by rw [numeraryref02_Of.l0]) ?_
    rcases Nat.eq_zero_or_pos n with rfl | h0
    · exact ev_neg (by omega) (ev_now (by rw [dg_zero, List.append_nil]))
    · rw [dg_pos b10 h0] at hl ⊢
      simp only [List.length_cons] at hl
      refine ev_pos (by omega) (ev_pos (by rw [nl_length]; omega) ?_)
      have h1 : IntKind.u64.wrap (Int.tdiv (n : Int) 10) = ((n / 10 : Nat) : Int) := by
        rw [Int.tdiv_eq_ediv_of_nonneg (by omega), u64_id] <;> omega
      have h2 : wrap64 (Int.tmod (n : Int) 10) = ((n % 10 : Nat) : Int) := by
        rw [Int.tmod_eq_emod_of_nonneg (by omega), wrap_id] <;> omega
      have h3 := ih (n / 10) (by omega) (out ++ [n % 10]) (by omega) (by simp only [List.length_append, List.length_cons, List.length_nil]; omega)
      rw [h1, h2, show nl out ++ [((n % 10 : Nat) : Int)] = nl (out ++ [n % 10]) by rw [nl_append]; rfl]
      rw [List.append_assoc] at h3
      exact h3
theorem rof_val {n : Nat} (hn : n < 18446744073709551616) : Ev (fun k => numeraryref02_Of.f k (n : Int)) (D n) := by
  have h : (dg 10 n).length ≤ 20 := (dg_len b10 n 20).mpr (by omega)
  exact rof_loop n [] hn (by simp; omega)

/-! times a small number -/
theorem rtimes_tail (a : List Nat) (m : Nat) (hm : m < 1099511627776) : ∀ (c : Nat) (out : List Nat), c ≤ m → Dg 10 out → a.length ≤ out.length → out.length + (dg 10 c).length ≤ 1099511627776 →
    Ev (fun k => numeraryref02_Times.l0 k (nl a) (m : Int) (nl out) (c : Int) (out.length : Int)) (D (val 10 out + 10 ^ out.length * c)) := by
  intro c
  induction c using Nat.strongRecOn with
  | _ c ih =>
    intro out hc ho hl hb
    refine Ev.step (fun k => by rw [numeraryref02_Times.l0]) ?_
    refine ev_neg (by rw [nl_length]; omega) ?_
    rcases Nat.eq_zero_or_pos c with rfl | h0
    · refine ev_neg (by omega) ?_
      rw [Nat.mul_zero, Nat.add_zero]
      exact (rtrim_val (by omega) ho).bind (Ev.now _)
    · rw [dg_pos b10 h0] at hb
      simp only [List.length_cons] at hb
      refine ev_pos (by omega) (ev_some (rat_nl a out.length) (ev_pos (by rw [nl_length]; omega) ?_))
      rw [gd_ge hl, show wrap64 ((c : Int) + wrap64 (((0 : Nat) : Int) * (m : Int))) = (c : Int) by rw [show (((0 : Nat) : Int) * (m : Int)) = 0 by simp, wrap_id (x := 0) (by omega) (by omega), wrap_id] <;> omega]
      have h1 : wrap64 (Int.tdiv (c : Int) 10) = ((c / 10 : Nat) : Int) := by
        rw [Int.tdiv_eq_ediv_of_nonneg (by omega), wrap_id] <;> omega
      have h2 : Int.tmod (c : Int) 10 = ((c % 10 : Nat) : Int) := by
        rw [Int.tmod_eq_emod_of_nonneg (by omega)]; omega
      have h3 := ih (c / 10) (by omega) (out ++ [c % 10]) (by omega) (ho.append (Dg.cons (Nat.mod_lt _ (by decide)) (Dg.nil _))) (by simp; omega) (by simp only [List.length_append, List.length_cons, List.length_nil]; omega)
      rw [h1, h2, succ_wrap (by omega), show nl out ++ [((c % 10 : Nat) : Int)] = nl (out ++ [c % 10]) by rw [nl_append]; rfl]
      rw [val_snoc, List.length_append, List.length_cons, List.length_nil, Nat.zero_add] at h3
      have h4 : val 10 out + 10 ^ out.length * (c % 10) + 10 ^ (out.length + 1) * (c / 10) = val 10 out + 10 ^ out.length * c := by
        have := Nat.mod_add_div c 10
        rw [Nat.pow_succ]
        grind
      rw [h4] at h3
      exact h3
theorem rtimes_head (a : List Nat) (m : Nat) (hm : m < 1099511627776) (ha : Dg 10 a) (hb : a.length ≤ 549755813888) : ∀ (d c : Nat) (out : List Nat), out.length + d = a.length → c ≤ m → Dg 10 out → val 10 out + 10 ^ out.length * c = val 10 (a.take out.length) * m →
    Ev (fun k => numeraryref02_Times.l0 k (nl a) (m : Int) (nl out) (c : Int) (out.length : Int)) (D (val 10 a * m)) := by
  intro d
  induction d with
  | zero =>
    intro c out hd hc ho hv
    have h1 : (dg 10 c).length ≤ 20 := (dg_len b10 c 20).mpr (by omega)
    have := rtimes_tail a m hm c out hc ho (by omega) (by omega)
    rw [hv, List.take_of_length_le (by omega)] at this
    exact this
  | succ d ih =>
    intro c out hd hc ho hv
    have hg := ha.gd (by decide) out.length
    refine Ev.step (fun k => by rw [numeraryref02_Times.l0]) ?_
    refine ev_pos (by rw [nl_length]; omega) (ev_some (rat_nl a out.length) (ev_pos (by rw [nl_length]; omega) ?_))
    obtain ⟨g, hge⟩ : ∃ g, gd a out.length = g := ⟨_, rfl⟩
    rw [hge] at hg ⊢
    have hgm : g * m ≤ 9 * m := Nat.mul_le_mul_right m (by omega)
    obtain ⟨p, hp⟩ : ∃ p, g * m = p := ⟨_, rfl⟩
    rw [hp] at hgm
    rw [wrap_mul (by rw [hp]; omega), hp, wrap_add (by omega), tdiv10, tmod10, wrap_nat (by omega), succ_wrap (by omega), nl_snoc]
    have h3 := ih ((c + p) / 10) (out ++ [(c + p) % 10]) (by simp only [List.length_append, List.length_cons, List.length_nil]; omega) (by omega) (ho.append (Dg.cons (Nat.mod_lt _ (by decide)) (Dg.nil _)))
    rw [val_snoc, List.length_append, List.length_cons, List.length_nil, Nat.zero_add] at h3
    refine h3 ?_
    rw [val_take_succ, hge]
    have := Nat.mod_add_div (c + p) 10
    rw [Nat.pow_succ]
    grind
theorem rtimes_val {a : List Nat} {m : Nat} (ha : Dg 10 a) (hb : a.length ≤ 549755813888) (hm : m < 1099511627776) : Ev (fun k => numeraryref02_Times.f k (nl a) (m : Int)) (D (val 10 a * m)) :=
  rtimes_head a m hm ha hb a.length 0 [] (by simp) (Nat.zero_le _) (Dg.nil _) (by simp [val])
theorem rtimes_D {n m : Nat} (hb : dn n ≤ 549755813888) (hm : m < 1099511627776) : Ev (fun k => numeraryref02_Times.f k (D n) (m : Int)) (D (n * m)) := by
  have := rtimes_val (Dg_dg b10 n) hb hm
  rw [val_dg b10] at this
  exact this

/-! the sum -/
theorem radd_step (a b : List Nat) (ha : Dg 10 a) (hb : Dg 10 b) (c : Nat) (out : List Nat) (hl : out.length ≤ 1099511627776) (hc : c ≤ 1) {r : List Int}
    (h : Ev (fun k => numeraryref02_Add.l0 k (nl a) (nl b) (nl (out ++ [(c + gd a out.length + gd b out.length) % 10])) (((c + gd a out.length + gd b out.length) / 10 : Nat) : Int) ((out.length + 1 : Nat) : Int)) r) :
    Ev (fun k => numeraryref02_Add.j1 k (nl a) (nl b) (nl out) (c : Int) (out.length : Int) true) r := by
  refine Ev.step (fun k => by rw [numeraryref02_Add.j1]) ?_
  refine ev_pos rfl (ev_some (rat_nl a out.length) (ev_some (rat_nl b out.length) (ev_pos (by rw [nl_length]; omega) ?_)))
  have hg := ha.gd (by decide) out.length
  have hg2 := hb.gd (by decide) out.length
  obtain ⟨g, hge⟩ : ∃ g, gd a out.length = g := ⟨_, rfl⟩
  obtain ⟨g2, hge2⟩ : ∃ g, gd b out.length = g := ⟨_, rfl⟩
  rw [hge] at hg h ⊢
  rw [hge2] at hg2 h ⊢
  rw [show wrap64 (wrap64 ((c : Int) + (g : Int)) + (g2 : Int)) = ((c + g + g2 : Nat) : Int) by rw [wrap_id (x := (c : Int) + (g : Int)) (by omega) (by omega), wrap_id] <;> omega]
  have h1 : wrap64 (Int.tdiv ((c + g + g2 : Nat) : Int) 10) = (((c + g + g2) / 10 : Nat) : Int) := by
    rw [Int.tdiv_eq_ediv_of_nonneg (by omega), wrap_id] <;> omega
  have h2 : Int.tmod ((c + g + g2 : Nat) : Int) 10 = (((c + g + g2) % 10 : Nat) : Int) := by
    rw [Int.tmod_eq_emod_of_nonneg (by omega)]; omega
  rw [h1, h2, succ_wrap (by omega), show nl out ++ [(((c + g + g2) % 10 : Nat) : Int)] = nl (out ++ [(c + g + g2) % 10]) by rw [nl_append]; rfl]
  exact h
theorem radd_loop (a b : List Nat) (ha : Dg 10 a) (hb : Dg 10 b) (hl : a.length ≤ 549755813888) (hl2 : b.length ≤ 549755813888) : ∀ (d c : Nat) (out : List Nat), max a.length b.length + 1 ≤ out.length + d → out.length ≤ max a.length b.length + 1 → (out.length = max a.length b.length + 1 → c = 0) → c ≤ 1 → Dg 10 out → val 10 out + 10 ^ out.length * c = val 10 (a.take out.length) + val 10 (b.take out.length) →
    Ev (fun k => numeraryref02_Add.l0 k (nl a) (nl b) (nl out) (c : Int) (out.length : Int)) (D (val 10 a + val 10 b)) := by
  intro d
  have fin : ∀ (c : Nat) (out : List Nat), max a.length b.length ≤ out.length → out.length ≤ max a.length b.length + 1 → c = 0 → Dg 10 out → val 10 out + 10 ^ out.length * c = val 10 (a.take out.length) + val 10 (b.take out.length) →
      Ev (fun k => numeraryref02_Add.l0 k (nl a) (nl b) (nl out) (c : Int) (out.length : Int)) (D (val 10 a + val 10 b)) := by
    intro c out h1 h2 h3 ho hv
    subst h3
    refine Ev.step (fun k => by rw [numeraryref02_Add.l0]) ?_
    refine ev_neg (by rw [nl_length]; omega) (ev_neg (by rw [nl_length]; omega) ?_)
    refine Ev.step (fun k => by rw [numeraryref02_Add.j1]) ?_
    refine ev_neg (by simp) ?_
    rw [List.take_of_length_le (by omega), List.take_of_length_le (by omega), Nat.mul_zero, Nat.add_zero] at hv
    rw [← hv]
    exact (rtrim_val (by omega) ho).bind (Ev.now _)
  induction d with
  | zero =>
    intro c out h1 h2 h3 h4 ho hv
    exact fin c out (by omega) h2 (h3 (by omega)) ho hv
  | succ d ih =>
    intro c out h1 h2 h3 h4 ho hv
    have hg := ha.gd (by decide) out.length
    have hg2 := hb.gd (by decide) out.length
    have more : out.length ≤ max a.length b.length → Ev (fun k => numeraryref02_Add.j1 k (nl a) (nl b) (nl out) (c : Int) (out.length : Int) true) (D (val 10 a + val 10 b)) := by
      intro hm
      refine radd_step a b ha hb c out (by omega) h4 ?_
      have h := ih ((c + gd a out.length + gd b out.length) / 10) (out ++ [(c + gd a out.length + gd b out.length) % 10]) (by simp only [List.length_append, List.length_cons, List.length_nil]; omega) (by simp only [List.length_append, List.length_cons, List.length_nil]; omega)
        (by
          simp only [List.length_append, List.length_cons, List.length_nil]
          intro h
          rw [gd_ge (l := a) (by omega), gd_ge (l := b) (by omega)]
          omega) (by omega) (ho.append (Dg.cons (Nat.mod_lt _ (by decide)) (Dg.nil _)))
      rw [val_snoc, List.length_append, List.length_cons, List.length_nil, Nat.zero_add] at h
      refine h ?_
      rw [val_take_succ, val_take_succ]
      have := Nat.mod_add_div (c + gd a out.length + gd b out.length) 10
      rw [Nat.pow_succ]
      grind
    refine Ev.step (fun k => by rw [numeraryref02_Add.l0]) ?_
    by_cases c1 : out.length < a.length
    · exact ev_pos (by rw [nl_length]; omega) (more (by omega))
    · refine ev_neg (by rw [nl_length]; omega) ?_
      by_cases c2 : out.length < b.length
      · exact ev_pos (by rw [nl_length]; omega) (more (by omega))
      · refine ev_neg (by rw [nl_length]; omega) ?_
        by_cases c3 : c = 0
        · subst c3
          have := fin 0 out (by omega) h2 rfl ho hv
          obtain ⟨K, hK⟩ := this
          refine ⟨K, fun k hk => ?_⟩
          have h5 : numeraryref02_Add.l0 (k + 1) (nl a) (nl b) (nl out) ((0 : Nat) : Int) (out.length : Int) = some _ := hK (k + 1) (by omega)
          rw [numeraryref02_Add.l0, if_neg (by rw [nl_length]; omega), if_neg (by rw [nl_length]; omega)] at h5
          exact h5
        · have hm : out.length ≤ max a.length b.length := by
            rcases Nat.lt_or_ge (max a.length b.length) out.length with h | h
            · exact absurd (h3 (by omega)) c3
            · exact h
          rw [show (decide ((c : Int) > 0)) = true by simp; omega]
          exact more hm
theorem radd_val {a b : List Nat} (ha : Dg 10 a) (hb : Dg 10 b) (hl : a.length ≤ 549755813888) (hl2 : b.length ≤ 549755813888) : Ev (fun k => numeraryref02_Add.f k (nl a) (nl b)) (D (val 10 a + val 10 b)) :=
  radd_loop a b ha hb hl hl2 (max a.length b.length + 1) 0 [] (by simp) (by simp) (by simp) (by omega) (Dg.nil _) (by simp [val])
theorem radd_D {m n : Nat} (hl : dn m ≤ 549755813888) (hl2 : dn n ≤ 549755813888) : Ev (fun k => numeraryref02_Add.f k (D m) (D n)) (D (m + n)) := by
  have := radd_val (Dg_dg b10 m) (Dg_dg b10 n) hl hl2
  rw [val_dg b10, val_dg b10] at this
  exact this

/-! which is greater -/
def cmpI (m n : Nat) : Int := if m < n then -1 else if n < m then 1 else 0
end Go.Proofs.Ytcepdndhkidehaa.M
end
section
namespace Go.Proofs.Ytcepdndhkidehaa.PA
open Go.RowKit Go.Proofs.YtcepdndhkidehaaW.PrintWords Go.Proofs.YtcepdndhkidehaaW.PrintLast Go.Proofs.YtcepdndhkidehaaW.PrintMore
attribute [local go_sem] max2_int min2_int max_two min_two max_three min_three max_four min_four   -- for this text's walks alone
set_option linter.unusedVariables false
set_option linter.unusedSimpArgs false

/-! ### times_Mul: function 24 -/
mutual
def times_Mul.l0 : Nat → List Int → List Int → List Int → Int → Int → Option (List Int)
  | 0, _, _, _, _, _ => none
  | k + 1, x6, x7, x23, x24, x25 => if x25 < x24 then (if 0 ≤ x25 then (if x25 < (x23.length : Int) then (times_Mul.l1 k x6 x7 x25 (rd x23 x25) 0 x23 x24 x25 x6 (x6.length : Int) 0) else (none)) else (none)) else ((nat_Made.f k x7).bind fun t188 => (some t188))
def times_Mul.l1 : Nat → List Int → List Int → Int → Int → Int → List Int → Int → Int → List Int → Int → Int → Option (List Int)
  | 0, _, _, _, _, _, _, _, _, _, _, _ => none
  | k + 1, x6, x7, x8, x9, x10, x23, x24, x25, x30, x31, x32 => if x32 < x31 then (if 0 ≤ x32 then (if x32 < (x30.length : Int) then (if 0 ≤ (wrap64 (x8 + x32)) then (if (wrap64 (x8 + x32)) < (x7.length : Int) then (times_Mul.l1 k x6 (x7.set ((wrap64 (x8 + x32)) : Int).toNat ((IntKind.u64.wrap (x10 + (IntKind.u64.wrap ((IntKind.u64.wrap ((IntKind.u64.wrap (x9)) * (IntKind.u64.wrap (rd x30 x32)))) + (IntKind.u64.wrap (rd x7 (wrap64 (x8 + x32)))))))) % 4294967296)) x8 x9 ((IntKind.u64.wrap (x10 + (IntKind.u64.wrap ((IntKind.u64.wrap ((IntKind.u64.wrap (x9)) * (IntKind.u64.wrap (rd x30 x32)))) + (IntKind.u64.wrap (rd x7 (wrap64 (x8 + x32)))))))) / 4294967296) x23 x24 x25 x30 x31 (wrap64 (x32 + 1))) else (none)) else (none)) else (none)) else (none)) else (if 0 ≤ (wrap64 (x8 + (x6.length : Int))) then (if (wrap64 (x8 + (x6.length : Int))) < (x7.length : Int) then (times_Mul.l0 k x6 (x7.set ((wrap64 (x8 + (x6.length : Int))) : Int).toNat ((x10) % 4294967296)) x23 x24 (wrap64 (x25 + 1))) else (none)) else (none))
end
def times_Mul.f (k : Nat) (l0_0 : List Int) (l1_0 : List Int) : Option (List Int) := (nat_Nat_Limbs.f l0_0).bind fun t179 => ((nat_Nat_Limbs.f l1_0).bind fun t182 => (if 0 ≤ (wrap64 ((t179.length : Int) + (t182.length : Int))) then (if (wrap64 ((t179.length : Int) + (t182.length : Int)) : Int).toNat ≤ 70368744177664 then (times_Mul.l0 k t182 (List.replicate (wrap64 ((t179.length : Int) + (t182.length : Int)) : Int).toNat 0) t179 (t179.length : Int) 0) else (none)) else (none)))
theorem times_Mul.mono_l : ∀ k, (∀ y0 y1 y2 y3 y4, LeO (times_Mul.l0 k y0 y1 y2 y3 y4) (times_Mul.l0 (k + 1) y0 y1 y2 y3 y4)) ∧ (∀ y0 y1 y2 y3 y4 y5 y6 y7 y8 y9 y10, LeO (times_Mul.l1 k y0 y1 y2 y3 y4 y5 y6 y7 y8 y9 y10) (times_Mul.l1 (k + 1) y0 y1 y2 y3 y4 y5 y6 y7 y8 y9 y10))
  | 0 => ⟨fun _ _ _ _ _ r h => by simp [times_Mul.l0] at h, fun _ _ _ _ _ _ _ _ _ _ _ r h => by simp [times_Mul.l1] at h⟩
  | k + 1 => by
    obtain ⟨ih0, ih1⟩ := times_Mul.mono_l k
    refine ⟨?_, ?_⟩
    · intro y0 y1 y2 y3 y4
      unfold times_Mul.l0
      repeat' first
      | (with_reducible exact ih0 _ _ _ _ _)
      | (with_reducible exact ih1 _ _ _ _ _ _ _ _ _ _ _)
      | (with_reducible exact nat_Made.mono _ _)
      | (with_reducible exact LeO.refl _)
      | (with_reducible exact LeO.none _)
      | (with_reducible refine LeO.ite ?_ ?_)
      | (with_reducible refine LeO.bind ?_ (fun _ => ?_))
    intro y0 y1 y2 y3 y4 y5 y6 y7 y8 y9 y10
    unfold times_Mul.l1
    repeat' first
    | (with_reducible exact ih0 _ _ _ _ _)
    | (with_reducible exact ih1 _ _ _ _ _ _ _ _ _ _ _)
    | (with_reducible exact nat_Made.mono _ _)
    | (with_reducible exact LeO.refl _)
    | (with_reducible exact LeO.none _)
    | (with_reducible refine LeO.ite ?_ ?_)
    | (with_reducible refine LeO.bind ?_ (fun _ => ?_))
    | exact ih0 _ _ _ _ _
    | exact ih1 _ _ _ _ _ _ _ _ _ _ _
    | exact nat_Made.mono _ _
    | exact LeO.none _
    | refine LeO.ite ?_ ?_
    | refine LeO.bind ?_ (fun _ => ?_)
theorem times_Mul.mono : ∀ a0 a1 k, LeO (times_Mul.f k a0 a1) (times_Mul.f (k + 1) a0 a1) := by
  intro a0 a1 k
  obtain ⟨ih0, ih1⟩ := times_Mul.mono_l k
  unfold times_Mul.f
  repeat' first
      | (with_reducible exact ih0 _ _ _ _ _)
      | (with_reducible exact ih1 _ _ _ _ _ _ _ _ _ _ _)
      | (with_reducible exact nat_Made.mono _ _)
      | (with_reducible exact LeO.refl _)
      | (with_reducible exact LeO.none _)
      | (with_reducible refine LeO.ite ?_ ?_)
      | (with_reducible refine LeO.bind ?_ (fun _ => ?_))
set_option maxHeartbeats 8000000 in
set_option maxRecDepth 100000 in
theorem times_Mul.calls (k : Nat) (A0_0 : Option Addr) (c0_0 : Nat) (l0_0 : List Int) (A1_0 : Option Addr) (c1_0 : Nat) (l1_0 : List Int) (r : List Int) (w : World) (hr0_0 : Kd.C (Kd.int .u32) w A0_0 l0_0.length l0_0) (hc0_0 : l0_0.length ≤ c0_0) (hr1_0 : Kd.C (Kd.int .u32) w A1_0 l1_0.length l1_0) (hc1_0 : l1_0.length ≤ c1_0) (h : times_Mul.f k l0_0 l1_0 = some r) :
    Calls Try.prog 24 #[.agg #[.slice A0_0 l0_0.length c0_0], .agg #[.slice A1_0 l1_0.length c1_0]] w fun e w' => ∃ v0_ : Value, e = .returned (.agg #[v0_]) ∧ Kd.R (Kd.int .u32) 23 w' w.heap.size (fun _ => True) v0_ r ∧ Below w.heap.size w w' := by
  have hu25 := Try.underlying25
  have HR0_0 := Aside0.mk hr0_0
  have HC0_0 := Aside0.mk hc0_0
  clear hr0_0 hc0_0
  have HR1_0 := Aside0.mk hr1_0
  have HC1_0 := Aside0.mk hc1_0
  clear hr1_0 hc1_0
  have HB := Aside0.mk (Below.refl w.heap.size w)
  have H : ((nat_Nat_Limbs.f l0_0).bind fun t179 => ((nat_Nat_Limbs.f l1_0).bind fun t182 => (if 0 ≤ (wrap64 ((t179.length : Int) + (t182.length : Int))) then (if (wrap64 ((t179.length : Int) + (t182.length : Int)) : Int).toNat ≤ 70368744177664 then (times_Mul.l0 k t182 (List.replicate (wrap64 ((t179.length : Int) + (t182.length : Int)) : Int).toNat 0) t179 (t179.length : Int) 0) else (none)) else (none)))) = some r := h
  clear h
  replace H := Option.bind_eq_some_iff.mp H
  obtain ⟨t179, A30, H⟩ := H
  have A3 := Aside0.mk A30
  clear A30
  replace H := Option.bind_eq_some_iff.mp H
  obtain ⟨t182, A40, H⟩ := H
  have A4 := Aside0.mk A40
  clear A40
  obtain ⟨ji5, hji5⟩ : ∃ j_ : Int, (wrap64 ((t179.length : Int) + (t182.length : Int))) = j_ := ⟨_, rfl⟩
  replace H : (if 0 ≤ (ji5) then (if (ji5 : Int).toNat ≤ 70368744177664 then (times_Mul.l0 k t182 (List.replicate (ji5 : Int).toNat 0) t179 (t179.length : Int) 0) else (none)) else (none)) = some r := by first | (rw [hji5] at H; exact H) | (simp only [hji5] at H ⊢; exact H)
  (try rw [hji5] at A3)
  (try rw [hji5] at A4)
  have hji5w : (IntKind.i64.wrap ((t179.length : Int) + (t182.length : Int))) = ji5 := (i64_w _).trans hji5
  by_cases c6 : 0 ≤ (ji5)
  rotate_left
  · rw [if_neg c6] at H
    exact absurd H (by simp)

  rw [if_pos c6] at H
  have c6b0 := eq_true c6
  have c6b1 : decide (0 ≤ (ji5)) = true := decide_eq_true c6
  clear c6
  by_cases c7 : (ji5 : Int).toNat ≤ 70368744177664
  rotate_left
  · rw [if_neg c7] at H
    exact absurd H (by simp)
  rw [if_pos c7] at H
  have c7b0 := eq_true c7
  have c7b1 : decide ((ji5 : Int).toNat ≤ 70368744177664) = true := decide_eq_true c7
  clear c7
  obtain ⟨y185, hy185⟩ : ∃ y_ : List Int, y_ = (List.replicate (ji5 : Int).toNat 0) := ⟨_, rfl⟩
  replace H : (times_Mul.l0 k t182 y185 t179 (t179.length : Int) 0) = some r := by first | (rw [hy185]; with_reducible exact H) | (have H2_ := (Option.bind_some _ _).symm.trans H; rw [hy185]; with_reducible exact H2_) | (have H2_ := (Option.bind_some _ _).symm.trans H; with_reducible exact H2_) | with_reducible exact H | (rw [hy185]; exact H) | exact H
  have Ny185 := Aside0.mk hy185
  clear hy185
  have H' := Aside0.mk H
  clear H
  go_enter Try.func24, Try.ntmps24
  try go_wp2_with (first | ((with_reducible refine gate_dst (N := 2) rfl ?_); refine box_event ?hg (N := 2) ?hd (cs := #[.slice A0_0 l0_0.length c0_0]) (t := 25) ?hr ?_; (case hd => rfl); (case hg => rfl); (case hr => first | (go_simp; done) | (go_simp; rfl)); intro gb176 hg w8 hbox hb; have BK176 := Aside0.mk (hbox); have GW176 := Aside0.mk ((by rw [hg]; exact (below_size (by repeat (first | (with_reducible first | exact HB.out | apply below_alloc | apply pw_below_drewN | apply below_drew1) | exact HB.out))) : w.heap.size ≤ gb176)); have GE176 := Aside0.mk ((by rw [hg]; exact (below_size (by repeat (first | (with_reducible first | exact HB.out | apply below_alloc | apply pw_below_drewN | apply below_drew1) | exact HB.out))) : w.heap.size ≤ gb176)); replace HB := Aside0.mk (below_step (by repeat (first | (with_reducible first | exact HB.out | apply below_alloc | apply pw_below_drewN | apply below_drew1) | exact HB.out)) hb); clear hb hbox hg) | ((with_reducible refine gate_dst (N := 3) rfl ?_); refine box_event ?hg (N := 3) ?hd (cs := #[.slice A1_0 l1_0.length c1_0]) (t := 25) ?hr ?_; (case hd => rfl); (case hg => rfl); (case hr => first | (go_simp; done) | (go_simp; rfl)); intro gb177 hg w9 hbox hb; have BK177 := Aside0.mk (hbox); have GW177 := Aside0.mk ((by rw [hg]; exact (below_size (by repeat (first | (with_reducible first | exact HB.out | apply below_alloc | apply pw_below_drewN | apply below_drew1 | refine below_set ?_ GE176.out) | exact HB.out))) : w.heap.size ≤ gb177)); have GE177 := Aside0.mk ((by rw [hg]; exact (below_size (by repeat (first | (with_reducible first | exact HB.out | apply below_alloc | apply pw_below_drewN | apply below_drew1 | refine below_set ?_ GE176.out) | exact HB.out))) : w.heap.size ≤ gb177)); replace HB := Aside0.mk (below_step (by repeat (first | (with_reducible first | exact HB.out | apply below_alloc | apply pw_below_drewN | apply below_drew1 | refine below_set ?_ GE176.out) | exact HB.out)) hb); have NB176_177 := Aside0.mk ((by rw [hg]; exact Nat.ne_of_lt (blk_lt (g := gb176) (o := .cells #[.slice A0_0 l0_0.length c0_0] 25 (0, 0)) BK176.out) : gb176 ≠ gb177)); have NB177_176 := Aside0.mk ((by rw [hg]; exact Nat.ne_of_gt (blk_lt (g := gb176) (o := .cells #[.slice A0_0 l0_0.length c0_0] 25 (0, 0)) BK176.out) : gb177 ≠ gb176)); replace BK176 := Aside0.mk (blk_below (g := gb176) (o := .cells #[.slice A0_0 l0_0.length c0_0] 25 (0, 0)) BK176.out hb); clear hb hbox hg) | ((with_reducible refine gate_dst (N := 4) rfl ?_); refine box_event ?hg (N := 4) ?hd (cs := #[.slice none 0 0]) (t := 25) ?hr ?_; (case hd => rfl); (case hg => rfl); (case hr => first | (go_simp; done) | (go_simp; rfl)); intro gb178 hg w10 hbox hb; have BK178 := Aside0.mk (hbox); have GW178 := Aside0.mk ((by rw [hg]; exact (below_size (by repeat (first | (with_reducible first | exact HB.out | apply below_alloc | apply pw_below_drewN | apply below_drew1 | refine below_set ?_ GE176.out | refine below_set ?_ GE177.out) | exact HB.out))) : w.heap.size ≤ gb178)); have GE178 := Aside0.mk ((by rw [hg]; exact (below_size (by repeat (first | (with_reducible first | exact HB.out | apply below_alloc | apply pw_below_drewN | apply below_drew1 | refine below_set ?_ GE176.out | refine below_set ?_ GE177.out) | exact HB.out))) : w.heap.size ≤ gb178)); replace HB := Aside0.mk (below_step (by repeat (first | (with_reducible first | exact HB.out | apply below_alloc | apply pw_below_drewN | apply below_drew1 | refine below_set ?_ GE176.out | refine below_set ?_ GE177.out) | exact HB.out)) hb); have NB176_178 := Aside0.mk ((by rw [hg]; exact Nat.ne_of_lt (blk_lt (g := gb176) (o := .cells #[.slice A0_0 l0_0.length c0_0] 25 (0, 0)) BK176.out) : gb176 ≠ gb178)); have NB178_176 := Aside0.mk ((by rw [hg]; exact Nat.ne_of_gt (blk_lt (g := gb176) (o := .cells #[.slice A0_0 l0_0.length c0_0] 25 (0, 0)) BK176.out) : gb178 ≠ gb176)); replace BK176 := Aside0.mk (blk_below (g := gb176) (o := .cells #[.slice A0_0 l0_0.length c0_0] 25 (0, 0)) BK176.out hb); have NB177_178 := Aside0.mk ((by rw [hg]; exact Nat.ne_of_lt (blk_lt (g := gb177) (o := .cells #[.slice A1_0 l1_0.length c1_0] 25 (0, 0)) BK177.out) : gb177 ≠ gb178)); have NB178_177 := Aside0.mk ((by rw [hg]; exact Nat.ne_of_gt (blk_lt (g := gb177) (o := .cells #[.slice A1_0 l1_0.length c1_0] 25 (0, 0)) BK177.out) : gb178 ≠ gb177)); replace BK177 := Aside0.mk (blk_below (g := gb177) (o := .cells #[.slice A1_0 l1_0.length c1_0] 25 (0, 0)) BK177.out hb); clear hb hbox hg))
  replace BK176 := Aside0.mk (blk_drew BK176.out)
  replace BK177 := Aside0.mk (blk_drew BK177.out)
  replace BK178 := Aside0.mk (blk_drew BK178.out)
  replace HB := Aside0.mk (below_drew1 HB.out)
  refine start_ (n := 6) (S := fun w' => w'.cell? ⟨gb176, 0, none⟩ = some (.slice A0_0 l0_0.length c0_0) ∧ w'.cell? ⟨gb177, 0, none⟩ = some (.slice A1_0 l1_0.length c1_0)) (ds := []) #[false, false, false, false, false, false] (by kernel_rfl) rfl rfl ⟨(blk_cell BK176.out 0).trans rfl, (blk_cell BK177.out 0).trans rfl⟩ (fun hHeld => ?_)
  generalize w10.drew = w11 at BK176 BK177 BK178 HB hHeld ⊢
  refine take_ (i := 0) (N := some 13) (v := ?_) (a' := ?_) #[true, false, false, false, false, false] rfl rfl (by kernel_rfl) (fun _ _ _ h => h) (Or.inl ⟨by rfl, ?_⟩) hHeld ?_ ?_
  rotate_left
  · rintro w' ⟨s0, s1⟩
    go_simp
    with_reducible rfl
  rotate_left
  · simp only [Act.put, List.setIfInBounds_toArray, List.set_cons_zero, List.set_cons_succ, i64_w, i32_w]
    rfl
  refine take_ (i := 2) (N := some 15) (v := ?_) (a' := ?_) #[true, false, true, false, false, false] rfl rfl (by kernel_rfl) (fun _ _ _ h => h) (Or.inl ⟨by rfl, ?_⟩) hHeld ?_ ?_
  rotate_left
  · rintro w' ⟨s0, s1⟩
    go_simp
    with_reducible rfl
  rotate_left
  · simp only [Act.put, List.setIfInBounds_toArray, List.set_cons_zero, List.set_cons_succ, i64_w, i32_w]
    rfl
  refine one_ (i := 1) (N := some 14) #[true, true, true, false, false, false] rfl rfl (by kernel_rfl) (by decide) (fun K hK => ?_)
  refine goes_ Try.func31 (by kernel_rfl) rfl #[.agg #[.slice A0_0 l0_0.length c0_0]] (by rfl) rfl rfl (by (try simp only [List.map_toArray, List.map_cons, List.map_nil]); first | done | rfl | (simp only [List.length_drop, List.length_take]; rfl)) ?_
  with_reducible refine (nat_Nat_Limbs.calls _ _ l0_0 t179 _ ?side1 ?side2 A3.out).mono ?_
  (case side1 => exact (Kd.C_below HR0_0.out HB.out))
  (case side2 => exact HC0_0.out)
  rintro e w12 ⟨v180, rfl, ho0, hb⟩
  refine ⟨_, rfl, ?_⟩
  have HO181 := Aside0.mk (Kd.R_lower ho0 (below_size (by repeat (first | (with_reducible first | exact HB.out | apply below_alloc | apply pw_below_drewN | apply below_drew1 | refine below_set ?_ GE176.out | refine below_set ?_ GE177.out | refine below_set ?_ GE178.out) | exact HB.out))))
  replace BK176 := Aside0.mk (blk_below (g := gb176) (o := .cells #[.slice A0_0 l0_0.length c0_0] 25 (0, 0)) BK176.out hb)
  replace BK177 := Aside0.mk (blk_below (g := gb177) (o := .cells #[.slice A1_0 l1_0.length c1_0] 25 (0, 0)) BK177.out hb)
  replace BK178 := Aside0.mk (blk_below (g := gb178) (o := .cells #[.slice none 0 0] 25 (0, 0)) BK178.out hb)
  replace HB := Aside0.mk (below_step (by repeat (first | (with_reducible first | exact HB.out | apply below_alloc | apply pw_below_drewN | apply below_drew1 | refine below_set ?_ GE176.out | refine below_set ?_ GE177.out | refine below_set ?_ GE178.out) | exact HB.out)) hb)
  (try clear hb)
  (try clear hb2)
  (try clear hk)
  (try clear hi)
  (try clear ho0)
  refine hK.out _ _ ⟨(blk_cell BK176.out 0).trans rfl, (blk_cell BK177.out 0).trans rfl⟩ (fun hHeld => ?_)
  clear hK K
  refine norm_ (a' := ?_) ?_ ?_
  rotate_left
  · show Act.put _ (some 14) _ = _
    simp only [Act.put, List.setIfInBounds_toArray, List.set_cons_zero, List.set_cons_succ, i64_w, i32_w]
    rfl
  refine one_ (i := 3) (N := some 16) #[true, true, true, true, false, false] rfl rfl (by kernel_rfl) (by decide) (fun K hK => ?_)
  refine goes_ Try.func31 (by kernel_rfl) rfl #[.agg #[.slice A1_0 l1_0.length c1_0]] (by rfl) rfl rfl (by (try simp only [List.map_toArray, List.map_cons, List.map_nil]); first | done | rfl | (simp only [List.length_drop, List.length_take]; rfl)) ?_
  with_reducible refine (nat_Nat_Limbs.calls _ _ l1_0 t182 _ ?side1 ?side2 A4.out).mono ?_
  (case side1 => exact (Kd.C_below HR1_0.out HB.out))
  (case side2 => exact HC1_0.out)
  rintro e w13 ⟨v183, rfl, ho0, hb⟩
  refine ⟨_, rfl, ?_⟩
  have HO184 := Aside0.mk (Kd.R_lower (Kd.R_new' ho0 (Kd.R_lt HO181.out)) (below_size (by repeat (first | (with_reducible first | exact HB.out | apply below_alloc | apply pw_below_drewN | apply below_drew1 | refine below_set ?_ GE176.out | refine below_set ?_ GE177.out | refine below_set ?_ GE178.out) | exact HB.out))))
  replace HO181 := Aside0.mk (Kd.R_elder' HO181.out (Kd.R_base ho0) hb)
  replace BK176 := Aside0.mk (blk_below (g := gb176) (o := .cells #[.slice A0_0 l0_0.length c0_0] 25 (0, 0)) BK176.out hb)
  replace BK177 := Aside0.mk (blk_below (g := gb177) (o := .cells #[.slice A1_0 l1_0.length c1_0] 25 (0, 0)) BK177.out hb)
  replace BK178 := Aside0.mk (blk_below (g := gb178) (o := .cells #[.slice none 0 0] 25 (0, 0)) BK178.out hb)
  replace HB := Aside0.mk (below_step (by repeat (first | (with_reducible first | exact HB.out | apply below_alloc | apply pw_below_drewN | apply below_drew1 | refine below_set ?_ GE176.out | refine below_set ?_ GE177.out | refine below_set ?_ GE178.out) | exact HB.out)) hb)
  (try clear hb)
  (try clear hb2)
  (try clear hk)
  (try clear hi)
  (try clear ho0)
  refine hK.out _ _ ⟨(blk_cell BK176.out 0).trans rfl, (blk_cell BK177.out 0).trans rfl⟩ (fun hHeld => ?_)
  clear hK K
  refine norm_ (a' := ?_) ?_ ?_
  rotate_left
  · show Act.put _ (some 16) _ = _
    simp only [Act.put, List.setIfInBounds_toArray, List.set_cons_zero, List.set_cons_succ, i64_w, i32_w]
    rfl
  refine pure_ (i := 4) (N := some 5) (v := ?_) (a' := ?_) #[true, true, true, true, true, false] rfl rfl (by kernel_rfl) (fun _ _ _ h => h) (Or.inl ⟨by rfl, ?_⟩) ?_ ?_
  rotate_left
  · intro w'
    go_simp
    with_reducible rfl
  rotate_left
  · simp only [Act.put, List.setIfInBounds_toArray, List.set_cons_zero, List.set_cons_succ, i64_w, i32_w]
    rfl
  refine pure_ (i := 5) (N := some 6) (v := ?_) (a' := ?_) #[true, true, true, true, true, true] rfl rfl (by kernel_rfl) (fun _ _ _ h => h) (Or.inl ⟨by rfl, ?_⟩) ?_ ?_
  rotate_left
  · intro w'
    go_simp
    with_reducible rfl
  rotate_left
  · simp only [Act.put, List.setIfInBounds_toArray, List.set_cons_zero, List.set_cons_succ, i64_w, i32_w]
    rfl
  refine done_ (by kernel_rfl) ?_
  obtain ⟨Ao14, co14, eo14⟩ := Kd.R_slice HO181.out
  subst eo14
  obtain ⟨Ao15, co15, eo15⟩ := Kd.R_slice HO184.out
  subst eo15
  try go_wp2_with (first | ((with_reducible refine gate_dst (N := 22) rfl ?_); refine Kd.R_make (Kd.int .u32) _ 23 rfl (N := 22) rfl 22 _ _ rfl ji5 rfl rfl Try.underlying22 (.int .u32 0) 4 info23 rfl (by decide) (by omega) 0 (ok := fun _ => True) (okp := fun _ => True) rfl (fun _ hk => hk) trivial (of_decide_eq_true (by assumption)) (Nat.le_trans (Nat.mul_le_mul_right _ (of_decide_eq_true (by assumption) : ji5.toNat ≤ 70368744177664)) (by omega)) (Below.refl _ _) (Nat.le_refl _) ?_; intro v186 w16 ho17 hb hg_ hnew_; clear hg_ hnew_; (first | rw [← Ny185.out] at ho17 | (simp only [Int.reduceToNat] at ho17; rw [← Ny185.out] at ho17)); have HO187 := Aside0.mk (Kd.R_lower (Kd.R_new' (Kd.R_new' ho17 (Kd.R_lt HO181.out)) (Kd.R_lt HO184.out)) (below_size (by repeat (first | (with_reducible first | exact HB.out | apply below_alloc | apply pw_below_drewN | apply below_drew1 | refine below_set ?_ GE176.out | refine below_set ?_ GE177.out | refine below_set ?_ GE178.out) | exact HB.out)))); replace HO181 := Aside0.mk (Kd.R_elder' HO181.out (Kd.R_base ho17) hb); replace HO184 := Aside0.mk (Kd.R_elder' HO184.out (Kd.R_base ho17) hb); replace BK176 := Aside0.mk (blk_below (g := gb176) (o := .cells #[.slice A0_0 l0_0.length c0_0] 25 (0, 0)) BK176.out hb); replace BK177 := Aside0.mk (blk_below (g := gb177) (o := .cells #[.slice A1_0 l1_0.length c1_0] 25 (0, 0)) BK177.out hb); replace BK178 := Aside0.mk (blk_below (g := gb178) (o := .cells #[.slice none 0 0] 25 (0, 0)) BK178.out hb); replace HB := Aside0.mk (below_step (by repeat (first | (with_reducible first | exact HB.out | apply below_alloc | apply pw_below_drewN | apply below_drew1 | refine below_set ?_ GE176.out | refine below_set ?_ GE177.out | refine below_set ?_ GE178.out) | exact HB.out)) hb); clear hb ho17))
  (try simp only [Act.put, List.setIfInBounds_toArray, List.set_cons_zero, List.set_cons_succ])
  go_loopg [25] k (fun kq v25 w' => ∃ (x7_1 : List Int) (x25_1 : Int), v25 = .int .i64 x25_1 ∧ Aside0 (times_Mul.l0 kq t182 x7_1 t179 (t179.length : Int) x25_1 = some r) ∧ Aside0 (kq ≤ k) ∧ Aside0 (Kd.R (Kd.int .u32) 23 w' w.heap.size (fun k_ => some k_ ≠ (v186 : Value).ownBlock ∧ some k_ ≠ ((.slice Ao14 t179.length co14) : Value).ownBlock) (.slice Ao15 t182.length co15) t182) ∧ Aside0 (Kd.R (Kd.int .u32) 23 w' w.heap.size (fun k_ => some k_ ≠ ((.slice Ao15 t182.length co15) : Value).ownBlock ∧ some k_ ≠ ((.slice Ao14 t179.length co14) : Value).ownBlock) v186 x7_1) ∧ Aside0 (Kd.R (Kd.int .u32) 23 w' w.heap.size (fun k_ => some k_ ≠ ((.slice Ao15 t182.length co15) : Value).ownBlock ∧ some k_ ≠ (v186 : Value).ownBlock) (.slice Ao14 t179.length co14) t179) ∧ Aside0 (w'.heap[gb176]? = some (.cells #[(.slice A0_0 l0_0.length c0_0)] 25 (0, 0))) ∧ Aside0 (w'.heap[gb177]? = some (.cells #[(.slice A1_0 l1_0.length c1_0)] 25 (0, 0))) ∧ Aside0 (w'.heap[gb178]? = some (.cells #[(.slice none 0 0)] 25 (0, 0))) ∧ Aside0 (Below w.heap.size w w'))
  case atStart => exact ⟨(y185), (0), rfl, H', ⟨Nat.le_refl _⟩, ⟨by exact Kd.R_mono HO184.out (fun _ hk => ⟨hk.2, hk.1.2⟩)⟩, ⟨by exact Kd.R_mono HO187.out (fun _ hk => ⟨hk.2, hk.1.2⟩)⟩, ⟨by exact Kd.R_mono HO181.out (fun _ hk => ⟨hk.1.2, hk.2⟩)⟩, ⟨BK176.out⟩, ⟨BK177.out⟩, ⟨BK178.out⟩, ⟨by repeat (first | (with_reducible first | exact HB.out | apply below_alloc | apply pw_below_drewN | apply below_drew1 | refine below_set ?_ GE176.out | refine below_set ?_ GE177.out | refine below_set ?_ GE178.out) | exact HB.out)⟩⟩
  case round =>
    clear H'
    try clear c1
    try clear c2
    try clear p2
    try clear c3
    try clear c6
    try clear c6b0
    try clear c6b1
    try clear p6
    try clear c7
    try clear c7b0
    try clear c7b1
    obtain ⟨x7_1, x25_1, rfl, HA, HK1, HO_6, HO_7, HO_23, BK176, BK177, BK178, HB⟩ := hrel
    cases gk with
    | zero => exact absurd HA.out (by simp [times_Mul.l0])
    | succ k1 =>
      have H := HA.out
      clear HA
      simp only [times_Mul.l0] at H
      by_cases c18 : x25_1 < (t179.length : Int)
      rotate_left
      · rw [if_neg c18] at H
        have c18b0 : decide (x25_1 < (t179.length : Int)) = false := decide_eq_false c18
        clear c18
        replace H := Option.bind_eq_some_iff.mp H
        obtain ⟨t188, A370, H⟩ := H
        have A37 := Aside0.mk A370
        clear A370
        obtain rfl := Option.some.inj H
        obtain ⟨Ao38, co38, eo38⟩ := Kd.R_slice HO_7.out
        subst eo38
        go_wp2_with (first | ((with_reducible refine gate_callee (f := 16) rfl ?_); refine goesL_ (some 72) rfl rfl Try.func16 (by kernel_rfl) rfl #[.slice Ao38 x7_1.length co38] rfl (by (try simp only [List.map_toArray, List.map_cons, List.map_nil]); first | done | rfl | (simp only [List.length_drop, List.length_take]; rfl)) ?_; (with_reducible refine (nat_Made.calls k1 _ _ x7_1 t188 _ ?side1 ?side2 A37.out).mono ?_); (case side1 => exact (Kd.R_reads' HO_7.out).2.2); (case side2 => exact (Kd.R_reads' HO_7.out).2.1); rintro e w39 ⟨v189, rfl, ho0, hb⟩; refine ⟨_, rfl, ?_⟩; have HO190 := Aside0.mk (Kd.R_lower (Kd.R_new' (Kd.R_new' (Kd.R_new' ho0 (Kd.R_lt HO_6.out)) (Kd.R_lt HO_7.out)) (Kd.R_lt HO_23.out)) (below_size (by repeat (first | (with_reducible first | exact HB.out | apply below_alloc | apply pw_below_drewN | apply below_drew1 | refine below_set ?_ GE176.out | refine below_set ?_ GE177.out | refine below_set ?_ GE178.out) | exact HB.out)))); replace HO_6 := Aside0.mk (Kd.R_elder' HO_6.out (Kd.R_base ho0) hb); replace HO_7 := Aside0.mk (Kd.R_elder' HO_7.out (Kd.R_base ho0) hb); replace HO_23 := Aside0.mk (Kd.R_elder' HO_23.out (Kd.R_base ho0) hb); replace BK176 := Aside0.mk (blk_below (g := gb176) (o := .cells #[.slice A0_0 l0_0.length c0_0] 25 (0, 0)) BK176.out hb); replace BK177 := Aside0.mk (blk_below (g := gb177) (o := .cells #[.slice A1_0 l1_0.length c1_0] 25 (0, 0)) BK177.out hb); replace BK178 := Aside0.mk (blk_below (g := gb178) (o := .cells #[.slice none 0 0] 25 (0, 0)) BK178.out hb); replace HB := Aside0.mk (below_step (by repeat (first | (with_reducible first | exact HB.out | apply below_alloc | apply pw_below_drewN | apply below_drew1 | refine below_set ?_ GE176.out | refine below_set ?_ GE177.out | refine below_set ?_ GE178.out) | exact HB.out)) hb); obtain ⟨Ao40, co40, eo40⟩ := Kd.R_slice HO190.out; subst eo40; have hnb41 := NB178_176.out; have hnc41 := NB176_178.out; have hnb42 := NB178_177.out; have hnc42 := NB177_178.out; have hcz43_0 : w39.cell? ⟨gb178, 0, none⟩ = some (.slice none 0 0) := (blk_cell BK178.out 0).trans rfl; have hfz43_0 := blk_frozen BK178.out 0))
        refine bodyPost_ret (results_cell_row rfl _ _ gb178 25 #[.slice Ao40 t188.length co40] (0, 0) _ rfl (by (with_reducible repeat (first | refine blk_drewN ?_ _ | refine blk_drew ?_ | refine blk_alloc ?_ _)); refine blk_put (cs := #[.slice none 0 0]) ?_ 0 _ rfl; (with_reducible repeat (first | refine blk_drewN ?_ _ | refine blk_drew ?_ | refine blk_alloc ?_ _)); exact BK178.out) Try.underlying25 rfl (by kernel_rfl)) rfl ?_
        exact ⟨_, by first | rfl | (simp [errW_none, errW_some] <;> rfl) | (simp only [← hji5]; first | rfl | (simp [errW_none, errW_some] <;> rfl)) | (simp [*, errW_none, errW_some] <;> rfl), by exact Kd.R_mono (Kd.R_far (p := ⟨gb178, 0, none⟩) (Kd.R_types HO190.out BK178.out (by decide)) (fun _ hk => hk.2) (.slice Ao40 t188.length co40)) (fun _ hk => trivial), by repeat (first | (with_reducible first | exact HB.out | apply below_alloc | apply pw_below_drewN | apply below_drew1 | refine below_set ?_ GE176.out | refine below_set ?_ GE177.out | refine below_set ?_ GE178.out) | exact HB.out)⟩
      rw [if_pos c18] at H
      have c18b0 : decide (x25_1 < (t179.length : Int)) = true := decide_eq_true c18
      clear c18
      by_cases c19 : 0 ≤ x25_1
      rotate_left
      · rw [if_neg c19] at H
        exact absurd H (by simp)
      rw [if_pos c19] at H
      have c19b0 : decide (0 ≤ x25_1) = true := decide_eq_true c19
      clear c19
      by_cases c20 : x25_1 < (t179.length : Int)
      rotate_left
      · rw [if_neg c20] at H
        exact absurd H (by simp)
      rw [if_pos c20] at H
      have c20b0 : decide (x25_1 < (t179.length : Int)) = true := decide_eq_true c20
      clear c20
      have H' := Aside0.mk H
      clear H
      have p191 : 0 ≤ (x25_1 : Int) := of_decide_eq_true (by assumption)
      have q191 : x25_1 < (t179.length : Int) := of_decide_eq_true (by assumption)
      obtain ⟨ad191, e191, hx191_0⟩ := Kd.at_int (Kd.R_reads' HO_23.out).2.2 x25_1 p191 q191
      cases e191
      replace p191 := eq_true p191
      replace q191 := eq_true q191
      go_wp2
      (try simp only [Act.put, List.setIfInBounds_toArray, List.set_cons_zero, List.set_cons_succ])
      go_loopg [10, 32] k1 (fun kq v10 v32 w' => ∃ (x7_2 : List Int) (x10_2 : Int) (x32_2 : Int), v10 = .int .u64 x10_2 ∧ v32 = .int .i64 x32_2 ∧ Aside0 (times_Mul.l1 kq t182 x7_2 x25_1 (rd t179 x25_1) x10_2 t179 (t179.length : Int) x25_1 t182 (t182.length : Int) x32_2 = some r) ∧ Aside0 (kq ≤ k1) ∧ Aside0 (Kd.R (Kd.int .u32) 23 w' w.heap.size (fun k_ => some k_ ≠ (v186 : Value).ownBlock ∧ some k_ ≠ ((.slice (some ad191) t179.length co14) : Value).ownBlock) (.slice Ao15 t182.length co15) t182) ∧ Aside0 (Kd.R (Kd.int .u32) 23 w' w.heap.size (fun k_ => some k_ ≠ ((.slice Ao15 t182.length co15) : Value).ownBlock ∧ some k_ ≠ ((.slice (some ad191) t179.length co14) : Value).ownBlock ∧ some k_ ≠ ((.slice Ao15 t182.length co15) : Value).ownBlock) v186 x7_2) ∧ Aside0 (Kd.R (Kd.int .u32) 23 w' w.heap.size (fun k_ => some k_ ≠ ((.slice Ao15 t182.length co15) : Value).ownBlock ∧ some k_ ≠ (v186 : Value).ownBlock ∧ some k_ ≠ ((.slice Ao15 t182.length co15) : Value).ownBlock) (.slice (some ad191) t179.length co14) t179) ∧ Aside0 (Kd.R (Kd.int .u32) 23 w' w.heap.size (fun k_ => some k_ ≠ (v186 : Value).ownBlock ∧ some k_ ≠ ((.slice (some ad191) t179.length co14) : Value).ownBlock) (.slice Ao15 t182.length co15) t182) ∧ Aside0 (w'.heap[gb176]? = some (.cells #[(.slice A0_0 l0_0.length c0_0)] 25 (0, 0))) ∧ Aside0 (w'.heap[gb177]? = some (.cells #[(.slice A1_0 l1_0.length c1_0)] 25 (0, 0))) ∧ Aside0 (w'.heap[gb178]? = some (.cells #[(.slice none 0 0)] 25 (0, 0))) ∧ Aside0 (Below w.heap.size w w'))
      case atStart => exact ⟨(x7_1), (0), (0), rfl, rfl, H', ⟨Nat.le_refl _⟩, ⟨HO_6.out⟩, ⟨by exact Kd.R_mono HO_7.out (fun _ hk => ⟨hk.1, ⟨hk.2, hk.1⟩⟩)⟩, ⟨by exact Kd.R_mono HO_23.out (fun _ hk => ⟨hk.1, ⟨hk.2, hk.1⟩⟩)⟩, ⟨HO_6.out⟩, ⟨BK176.out⟩, ⟨BK177.out⟩, ⟨BK178.out⟩, ⟨by repeat (first | (with_reducible first | exact HB.out | apply below_alloc | apply pw_below_drewN | apply below_drew1 | refine below_set ?_ GE176.out | refine below_set ?_ GE177.out | refine below_set ?_ GE178.out) | exact HB.out)⟩⟩
      case round =>
        clear H'
        try clear c1
        try clear p1
        try clear q1
        try clear hx1
        try clear c2
        try clear p2
        try clear c3
        try clear c6
        try clear c6b0
        try clear c6b1
        try clear p6
        try clear c7
        try clear c7b0
        try clear c7b1
        try clear c18
        try clear c18b0
        try clear c19
        try clear c19b0
        try clear p19
        try clear q19
        try clear hx19
        try clear c20
        try clear c20b0
        try clear hx191_0
        try clear p191
        try clear p2
        try clear p6
        try clear q191
        obtain ⟨x7_2, x10_2, x32_2, rfl, rfl, HA, HK2, HO_6, HO_7, HO_23, HO_30, BK176, BK177, BK178, HB⟩ := hrel
        cases gk with
        | zero => exact absurd HA.out (by simp [times_Mul.l1])
        | succ k2 =>
          have H := HA.out
          clear HA
          simp only [times_Mul.l1] at H
          by_cases c21 : x32_2 < (t182.length : Int)
          rotate_left
          · rw [if_neg c21] at H
            have c21b0 : decide (x32_2 < (t182.length : Int)) = false := decide_eq_false c21
            clear c21
            obtain ⟨ji31, hji31⟩ : ∃ j_ : Int, (wrap64 (x25_1 + (t182.length : Int))) = j_ := ⟨_, rfl⟩
            replace H : (if 0 ≤ (ji31) then (if (ji31) < (x7_2.length : Int) then (times_Mul.l0 k2 t182 (x7_2.set ((ji31) : Int).toNat ((x10_2) % 4294967296)) t179 (t179.length : Int) (wrap64 (x25_1 + 1))) else (none)) else (none)) = some r := by first | (rw [hji31] at H; exact H) | (simp only [hji31] at H ⊢; exact H)
            have hji31w : (IntKind.i64.wrap (x25_1 + (t182.length : Int))) = ji31 := (i64_w _).trans hji31
            by_cases c32 : 0 ≤ (ji31)
            rotate_left
            · rw [if_neg c32] at H
              exact absurd H (by simp)
            rw [if_pos c32] at H
            have c32b0 : decide (0 ≤ (ji31)) = true := decide_eq_true c32
            clear c32
            by_cases c33 : (ji31) < (x7_2.length : Int)
            rotate_left
            · rw [if_neg c33] at H
              exact absurd H (by simp)
            rw [if_pos c33] at H
            have c33b0 : decide ((ji31) < (x7_2.length : Int)) = true := decide_eq_true c33
            clear c33
            obtain ⟨y195, hy195⟩ : ∃ y_ : List Int, y_ = (x7_2.set ((ji31) : Int).toNat ((x10_2) % 4294967296)) := ⟨_, rfl⟩
            replace H : (times_Mul.l0 k2 t182 y195 t179 (t179.length : Int) (wrap64 (x25_1 + 1))) = some r := by first | (rw [hy195]; with_reducible exact H) | (have H2_ := (Option.bind_some _ _).symm.trans H; rw [hy195]; with_reducible exact H2_) | (have H2_ := (Option.bind_some _ _).symm.trans H; with_reducible exact H2_) | with_reducible exact H | (rw [hy195]; exact H) | exact H
            have Ny195 := Aside0.mk hy195
            clear hy195
            have H' := Aside0.mk H
            clear H
            have p34 : 0 ≤ ((ji31) : Int) := of_decide_eq_true (by assumption)
            have q34 : ((ji31) : Int) < ((x7_2.length : Int) : Int) := of_decide_eq_true (by assumption)
            obtain ⟨go34, co34, eo34, gb34, gl34, cl34, HG34⟩ := Kd.R_form HO_7.out (by omega)
            (first | cases eo34 | (injection eo34 with ea_ en_ ec_; (first | subst ea_ | (injection ea_ with ea_; subst ea_)); subst ec_; clear en_))
            have GB34 := Aside0.mk gb34
            have GG34 := Aside0.mk HG34
            clear gb34 gl34 HG34
            obtain ⟨hx34_0, hf34_0⟩ := Kd.R_celln 0 HO_7.out ((ji31) : Int) p34 q34
            (try simp only [Go.IntWalk.toNatUp] at hx34_0 hf34_0)
            replace p34 := eq_true p34
            replace q34 := eq_true q34
            have HP35 := Kd.R_putg HO_7.out ((ji31) : Int) ((x10_2) % 4294967296)
            go_wp2_with (first | ((with_reducible refine gate_store (t := 23) (p := 69) rfl ?_); refine store_event (t := 23) (p := 69) (v := ?vo_w36) (w1 := (wr.setCell ⟨go34, ((ji31) : Int).toNat, none⟩ (.int .u32 ((x10_2) % 4294967296)))) ?hg ?ho ?hn ?hr ?_; (case ho => rfl); (case hg => rfl); (case hn => rfl); (case hr => first | (go_simp; done) | (go_simp; rfl)); intro w36 hw; have hg : wr.grownBy w36 (some go34) := (by rw [hw]; exact HP35.2); have hp_ : Kd.R (Kd.int .u32) 23 w36 w.heap.size (fun k_ => some k_ ≠ (.slice Ao15 t182.length co15 : Value).ownBlock ∧ some k_ ≠ (.slice (some ad191) t179.length co14 : Value).ownBlock ∧ some k_ ≠ (.slice Ao15 t182.length co15 : Value).ownBlock) (.slice (some ⟨go34, 0, none⟩) x7_2.length co34) y195 := (by rw [hw, Ny195.out]; exact HP35.1); clear HP35; replace HO_6 := Aside0.mk (Kd.R_after (v := (.slice (some ⟨go34, 0, none⟩) x7_2.length co34)) (v1 := (.slice (some ⟨go34, 0, none⟩) x7_2.length co34)) (ok := (fun k_ => some k_ ≠ (.slice (some ad191) t179.length co14 : Value).ownBlock)) (by exact Kd.R_mono HO_6.out (fun _ hk => ⟨hk.2, hk.1⟩)) hg (.inl rfl)); replace HO_23 := Aside0.mk (Kd.R_after (v := (.slice (some ⟨go34, 0, none⟩) x7_2.length co34)) (v1 := (.slice (some ⟨go34, 0, none⟩) x7_2.length co34)) (ok := (fun k_ => some k_ ≠ (.slice Ao15 t182.length co15 : Value).ownBlock ∧ some k_ ≠ (.slice Ao15 t182.length co15 : Value).ownBlock)) (by exact Kd.R_mono HO_23.out (fun _ hk => ⟨⟨hk.1, hk.2.2⟩, hk.2.1⟩)) hg (.inl rfl)); replace HO_30 := Aside0.mk (Kd.R_after (v := (.slice (some ⟨go34, 0, none⟩) x7_2.length co34)) (v1 := (.slice (some ⟨go34, 0, none⟩) x7_2.length co34)) (ok := (fun k_ => some k_ ≠ (.slice (some ad191) t179.length co14 : Value).ownBlock)) (by exact Kd.R_mono HO_30.out (fun _ hk => ⟨hk.2, hk.1⟩)) hg (.inl rfl)); replace BK176 := Aside0.mk (blk_grown (g := gb176) (o := .cells #[.slice A0_0 l0_0.length c0_0] 25 (0, 0)) BK176.out hg (Kd.R_ne HO_7.out BK176.out (by decide))); replace BK177 := Aside0.mk (blk_grown (g := gb177) (o := .cells #[.slice A1_0 l1_0.length c1_0] 25 (0, 0)) BK177.out hg (Kd.R_ne HO_7.out BK177.out (by decide))); replace BK178 := Aside0.mk (blk_grown (g := gb178) (o := .cells #[.slice none 0 0] 25 (0, 0)) BK178.out hg (Kd.R_ne HO_7.out BK178.out (by decide))); replace HO_7 := Aside0.mk (hp_); replace HB := Aside0.mk ((by rw [hw]; exact below_set (HB.out) GB34.out : Below w.heap.size w w36)); clear hg hw hp_))
            go_roundg k2
            case measure => have := HK1.out; have := HK2.out; omega
            case rel => exact ⟨(y195), (wrap64 (x25_1 + 1)), rfl, H', ⟨by have := HK1.out; have := HK2.out; omega⟩, ⟨by exact Kd.R_mono HO_6.out (fun _ hk => ⟨hk.2, hk.1⟩)⟩, ⟨by exact Kd.R_mono HO_7.out (fun _ hk => ⟨hk.1, hk.2.1⟩)⟩, ⟨by exact Kd.R_mono HO_23.out (fun _ hk => ⟨hk.1.1, hk.2⟩)⟩, ⟨BK176.out⟩, ⟨BK177.out⟩, ⟨BK178.out⟩, ⟨by repeat (first | (with_reducible first | exact HB.out | apply below_alloc | apply pw_below_drewN | apply below_drew1 | refine below_set ?_ GE176.out | refine below_set ?_ GE177.out | refine below_set ?_ GE178.out) | exact HB.out)⟩⟩
          rw [if_pos c21] at H
          have c21b0 : decide (x32_2 < (t182.length : Int)) = true := decide_eq_true c21
          clear c21
          by_cases c22 : 0 ≤ x32_2
          rotate_left
          · rw [if_neg c22] at H
            exact absurd H (by simp)
          rw [if_pos c22] at H
          have c22b0 : decide (0 ≤ x32_2) = true := decide_eq_true c22
          clear c22
          by_cases c23 : x32_2 < (t182.length : Int)
          rotate_left
          · rw [if_neg c23] at H
            exact absurd H (by simp)
          rw [if_pos c23] at H
          have c23b0 : decide (x32_2 < (t182.length : Int)) = true := decide_eq_true c23
          clear c23
          obtain ⟨ji24, hji24⟩ : ∃ j_ : Int, (wrap64 (x25_1 + x32_2)) = j_ := ⟨_, rfl⟩
          replace H : (if 0 ≤ (ji24) then (if (ji24) < (x7_2.length : Int) then (times_Mul.l1 k2 t182 (x7_2.set ((ji24) : Int).toNat ((IntKind.u64.wrap (x10_2 + (IntKind.u64.wrap ((IntKind.u64.wrap ((IntKind.u64.wrap ((rd t179 x25_1))) * (IntKind.u64.wrap (rd t182 x32_2)))) + (IntKind.u64.wrap (rd x7_2 (ji24))))))) % 4294967296)) x25_1 (rd t179 x25_1) ((IntKind.u64.wrap (x10_2 + (IntKind.u64.wrap ((IntKind.u64.wrap ((IntKind.u64.wrap ((rd t179 x25_1))) * (IntKind.u64.wrap (rd t182 x32_2)))) + (IntKind.u64.wrap (rd x7_2 (ji24))))))) / 4294967296) t179 (t179.length : Int) x25_1 t182 (t182.length : Int) (wrap64 (x32_2 + 1))) else (none)) else (none)) = some r := by first | (rw [hji24] at H; exact H) | (simp only [hji24] at H ⊢; exact H)
          have hji24w : (IntKind.i64.wrap (x25_1 + x32_2)) = ji24 := (i64_w _).trans hji24
          by_cases c25 : 0 ≤ (ji24)
          rotate_left
          · rw [if_neg c25] at H
            exact absurd H (by simp)
          rw [if_pos c25] at H
          have c25b0 : decide (0 ≤ (ji24)) = true := decide_eq_true c25
          clear c25
          by_cases c26 : (ji24) < (x7_2.length : Int)
          rotate_left
          · rw [if_neg c26] at H
            exact absurd H (by simp)
          rw [if_pos c26] at H
          have c26b0 : decide ((ji24) < (x7_2.length : Int)) = true := decide_eq_true c26
          clear c26
          obtain ⟨y194, hy194⟩ : ∃ y_ : List Int, y_ = (x7_2.set ((ji24) : Int).toNat ((IntKind.u64.wrap (x10_2 + (IntKind.u64.wrap ((IntKind.u64.wrap ((IntKind.u64.wrap ((rd t179 x25_1))) * (IntKind.u64.wrap (rd t182 x32_2)))) + (IntKind.u64.wrap (rd x7_2 (ji24))))))) % 4294967296)) := ⟨_, rfl⟩
          replace H : (times_Mul.l1 k2 t182 y194 x25_1 (rd t179 x25_1) ((IntKind.u64.wrap (x10_2 + (IntKind.u64.wrap ((IntKind.u64.wrap ((IntKind.u64.wrap ((rd t179 x25_1))) * (IntKind.u64.wrap (rd t182 x32_2)))) + (IntKind.u64.wrap (rd x7_2 (ji24))))))) / 4294967296) t179 (t179.length : Int) x25_1 t182 (t182.length : Int) (wrap64 (x32_2 + 1))) = some r := by first | (rw [hy194]; with_reducible exact H) | (have H2_ := (Option.bind_some _ _).symm.trans H; rw [hy194]; with_reducible exact H2_) | (have H2_ := (Option.bind_some _ _).symm.trans H; with_reducible exact H2_) | with_reducible exact H | (rw [hy194]; exact H) | exact H
          have Ny194 := Aside0.mk hy194
          clear hy194
          have H' := Aside0.mk H
          clear H
          have p192 : 0 ≤ (x32_2 : Int) := of_decide_eq_true (by assumption)
          have q192 : x32_2 < (t182.length : Int) := of_decide_eq_true (by assumption)
          obtain ⟨ad192, e192, hx192_0⟩ := Kd.at_int (Kd.R_reads' HO_30.out).2.2 x32_2 p192 q192
          cases e192
          replace p192 := eq_true p192
          replace q192 := eq_true q192
          obtain ⟨Ao28, co28, eo28⟩ := Kd.R_slice HO_7.out
          subst eo28
          have p193 : 0 ≤ ((ji24) : Int) := of_decide_eq_true (by assumption)
          have q193 : (ji24) < (x7_2.length : Int) := of_decide_eq_true (by assumption)
          obtain ⟨ad193, e193, hx193_0⟩ := Kd.at_int (Kd.R_reads' HO_7.out).2.2 (ji24) p193 q193
          cases e193
          replace p193 := eq_true p193
          replace q193 := eq_true q193
          have p27 : 0 ≤ ((ji24) : Int) := of_decide_eq_true (by assumption)
          have q27 : ((ji24) : Int) < ((x7_2.length : Int) : Int) := of_decide_eq_true (by assumption)
          obtain ⟨go27, co27, eo27, gb27, gl27, cl27, HG27⟩ := Kd.R_form HO_7.out (by omega)
          (first | cases eo27 | (injection eo27 with ea_ en_ ec_; (first | subst ea_ | (injection ea_ with ea_; subst ea_)); subst ec_; clear en_))
          have GB27 := Aside0.mk gb27
          have GG27 := Aside0.mk HG27
          clear gb27 gl27 HG27
          (first | simp only [add_plain] at hx193_0 | skip)
          obtain ⟨hx27_0, hf27_0⟩ := Kd.R_celln 0 HO_7.out ((ji24) : Int) p27 q27
          (try simp only [Go.IntWalk.toNatUp] at hx27_0 hf27_0)
          replace p27 := eq_true p27
          replace q27 := eq_true q27
          have HP29 := Kd.R_putg HO_7.out ((ji24) : Int) ((IntKind.u64.wrap (x10_2 + (IntKind.u64.wrap ((IntKind.u64.wrap ((IntKind.u64.wrap ((rd t179 x25_1))) * (IntKind.u64.wrap (rd t182 x32_2)))) + (IntKind.u64.wrap (rd x7_2 (ji24))))))) % 4294967296)
          go_wp2_with (first | ((with_reducible refine gate_store (t := 23) (p := 58) rfl ?_); refine store_event (t := 23) (p := 58) (v := ?vo_w30) (w1 := (wr.setCell ⟨go27, ((ji24) : Int).toNat, none⟩ (.int .u32 ((IntKind.u64.wrap (x10_2 + (IntKind.u64.wrap ((IntKind.u64.wrap ((IntKind.u64.wrap ((rd t179 x25_1))) * (IntKind.u64.wrap (rd t182 x32_2)))) + (IntKind.u64.wrap (rd x7_2 (ji24))))))) % 4294967296)))) ?hg ?ho ?hn ?hr ?_; (case ho => rfl); (case hg => rfl); (case hn => rfl); (case hr => first | (go_simp; done) | (go_simp; rfl)); intro w30 hw; have hg : wr.grownBy w30 (some go27) := (by rw [hw]; exact HP29.2); have hp_ : Kd.R (Kd.int .u32) 23 w30 w.heap.size (fun k_ => some k_ ≠ (.slice (some ad192) t182.length co15 : Value).ownBlock ∧ some k_ ≠ (.slice (some ad191) t179.length co14 : Value).ownBlock ∧ some k_ ≠ (.slice (some ad192) t182.length co15 : Value).ownBlock) (.slice (some ⟨go27, 0, none⟩) x7_2.length co28) y194 := (by rw [hw, Ny194.out]; exact HP29.1); clear HP29; replace HO_6 := Aside0.mk (Kd.R_after (v := (.slice (some ⟨go27, 0, none⟩) x7_2.length co28)) (v1 := (.slice (some ⟨go27, 0, none⟩) x7_2.length co28)) (ok := (fun k_ => some k_ ≠ (.slice (some ad191) t179.length co14 : Value).ownBlock)) (by exact Kd.R_mono HO_6.out (fun _ hk => ⟨hk.2, hk.1⟩)) hg (.inl rfl)); replace HO_23 := Aside0.mk (Kd.R_after (v := (.slice (some ⟨go27, 0, none⟩) x7_2.length co28)) (v1 := (.slice (some ⟨go27, 0, none⟩) x7_2.length co28)) (ok := (fun k_ => some k_ ≠ (.slice (some ad192) t182.length co15 : Value).ownBlock ∧ some k_ ≠ (.slice (some ad192) t182.length co15 : Value).ownBlock)) (by exact Kd.R_mono HO_23.out (fun _ hk => ⟨⟨hk.1, hk.2.2⟩, hk.2.1⟩)) hg (.inl rfl)); replace HO_30 := Aside0.mk (Kd.R_after (v := (.slice (some ⟨go27, 0, none⟩) x7_2.length co28)) (v1 := (.slice (some ⟨go27, 0, none⟩) x7_2.length co28)) (ok := (fun k_ => some k_ ≠ (.slice (some ad191) t179.length co14 : Value).ownBlock)) (by exact Kd.R_mono HO_30.out (fun _ hk => ⟨hk.2, hk.1⟩)) hg (.inl rfl)); replace BK176 := Aside0.mk (blk_grown (g := gb176) (o := .cells #[.slice A0_0 l0_0.length c0_0] 25 (0, 0)) BK176.out hg (Kd.R_ne HO_7.out BK176.out (by decide))); replace BK177 := Aside0.mk (blk_grown (g := gb177) (o := .cells #[.slice A1_0 l1_0.length c1_0] 25 (0, 0)) BK177.out hg (Kd.R_ne HO_7.out BK177.out (by decide))); replace BK178 := Aside0.mk (blk_grown (g := gb178) (o := .cells #[.slice none 0 0] 25 (0, 0)) BK178.out hg (Kd.R_ne HO_7.out BK178.out (by decide))); replace HO_7 := Aside0.mk (hp_); replace HB := Aside0.mk ((by rw [hw]; exact below_set (HB.out) GB27.out : Below w.heap.size w w30)); clear hg hw hp_))
          go_roundg k2
          case measure => have := HK1.out; have := HK2.out; omega
          case rel => exact ⟨(y194), ((IntKind.u64.wrap (x10_2 + (IntKind.u64.wrap ((IntKind.u64.wrap ((IntKind.u64.wrap ((rd t179 x25_1))) * (IntKind.u64.wrap (rd t182 x32_2)))) + (IntKind.u64.wrap (rd x7_2 (ji24))))))) / 4294967296), (wrap64 (x32_2 + 1)), (by first | rfl | (simp; done) | (simp only [← hji24] <;> (first | rfl | simp)) | (simp [*]; done)), rfl, H', ⟨by have := HK1.out; have := HK2.out; omega⟩, ⟨by exact Kd.R_mono HO_6.out (fun _ hk => ⟨hk.2, hk.1⟩)⟩, ⟨HO_7.out⟩, ⟨by exact Kd.R_mono HO_23.out (fun _ hk => ⟨hk.1.1, ⟨hk.2, hk.1.2⟩⟩)⟩, ⟨by exact Kd.R_mono HO_30.out (fun _ hk => ⟨hk.2, hk.1⟩)⟩, ⟨BK176.out⟩, ⟨BK177.out⟩, ⟨BK178.out⟩, ⟨by repeat (first | (with_reducible first | exact HB.out | apply below_alloc | apply pw_below_drewN | apply below_drew1 | refine below_set ?_ GE176.out | refine below_set ?_ GE177.out | refine below_set ?_ GE178.out) | exact HB.out)⟩⟩
end Go.Proofs.Ytcepdndhkidehaa.PA
end
section
namespace Go.Proofs.Ytcepdndhkidehaa.PA
open Go.RowKit Go.Proofs.YtcepdndhkidehaaW.PrintWords Go.Proofs.YtcepdndhkidehaaW.PrintLast Go.Proofs.YtcepdndhkidehaaW.PrintMore
attribute [local go_sem] max2_int min2_int max_two min_two max_three min_three max_four min_four   -- for this text's walks alone
set_option linter.unusedVariables false
set_option linter.unusedSimpArgs false

/-! ### times_Pow: function 28 -/
def times_Pow.l0 : Nat → Int → List Int → List Int → Option (List Int)
  | 0, _, _, _ => none
  | k + 1, x1, x214000, x219000 => if x1 > 0 then (if (Go.bits .and .i64 x1 1) = 1 then ((times_Mul.f k x219000 x214000).bind fun t219 => (if x1 > 1 then ((times_Mul.f k x214000 x214000).bind fun t222 => (times_Pow.l0 k (x1 / 2) t222 t219)) else (times_Pow.l0 k (x1 / 2) x214000 t219))) else (if x1 > 1 then ((times_Mul.f k x214000 x214000).bind fun t225 => (times_Pow.l0 k (x1 / 2) t225 x219000)) else (times_Pow.l0 k (x1 / 2) x214000 x219000))) else (some x219000)
def times_Pow.f (k : Nat) (l0_0 : List Int) (a1 : Int) : Option (List Int) := (nat_Of.f k 1).bind fun t215 => (times_Pow.l0 k a1 l0_0 t215)
theorem times_Pow.mono_l : ∀ k, (∀ y0 y1 y2, LeO (times_Pow.l0 k y0 y1 y2) (times_Pow.l0 (k + 1) y0 y1 y2))
  | 0 => fun _ _ _ r h => by simp [times_Pow.l0] at h
  | k + 1 => by
    have ih0 := times_Pow.mono_l k
    intro y0 y1 y2
    unfold times_Pow.l0
    repeat' first
    | (with_reducible exact ih0 _ _ _)
    | (with_reducible exact nat_Of.mono _ _)
    | (with_reducible exact times_Mul.mono _ _ _)
    | (with_reducible exact LeO.refl _)
    | (with_reducible exact LeO.none _)
    | (with_reducible refine LeO.ite ?_ ?_)
    | (with_reducible refine LeO.bind ?_ (fun _ => ?_))
    | exact ih0 _ _ _
    | exact nat_Of.mono _ _
    | exact times_Mul.mono _ _ _
    | exact LeO.none _
    | refine LeO.ite ?_ ?_
    | refine LeO.bind ?_ (fun _ => ?_)
theorem times_Pow.mono : ∀ a0 a1 k, LeO (times_Pow.f k a0 a1) (times_Pow.f (k + 1) a0 a1) := by
  intro a0 a1 k
  have ih0 := times_Pow.mono_l k
  unfold times_Pow.f
  repeat' first
      | (with_reducible exact ih0 _ _ _)
      | (with_reducible exact nat_Of.mono _ _)
      | (with_reducible exact times_Mul.mono _ _ _)
      | (with_reducible exact LeO.refl _)
      | (with_reducible exact LeO.none _)
      | (with_reducible refine LeO.ite ?_ ?_)
      | (with_reducible refine LeO.bind ?_ (fun _ => ?_))
set_option maxHeartbeats 8000000 in
set_option maxRecDepth 100000 in
theorem times_Pow.calls (k : Nat) (P0_0_ : Nat → Prop) (A0_0 : Option Addr) (c0_0 : Nat) (l0_0 : List Int) (a1 : Int) (r : List Int) (w : World) (hs0_0 : Kd.V (Kd.int .u32) 23 w w.heap.size (fun k_ => P0_0_ k_) (.slice A0_0 l0_0.length c0_0) l0_0) (h : times_Pow.f k l0_0 a1 = some r) :
    Calls Try.prog 28 #[.agg #[.slice A0_0 l0_0.length c0_0], .int .i64 a1] w fun e w' => ∃ v0_ : Value, e = .returned (.agg #[v0_]) ∧ Kd.R (Kd.int .u32) 23 w' w.heap.size (fun k_ => (w.heap.size ≤ k_)) v0_ r ∧ Below w.heap.size w w' := by
  have hu25 := Try.underlying25
  have HO0_0 := Aside0.mk (show Kd.V (Kd.int .u32) 23 w w.heap.size (fun k_ => (P0_0_ k_ ∨ w.heap.size ≤ k_)) (.slice A0_0 l0_0.length c0_0) l0_0 from Kd.V_mono hs0_0 (fun k_ hk => .inl hk))
  have HB := Aside0.mk (Below.refl w.heap.size w)
  have H : ((nat_Of.f k 1).bind fun t215 => (times_Pow.l0 k a1 l0_0 t215)) = some r := h
  clear h
  replace H := Option.bind_eq_some_iff.mp H
  obtain ⟨t215, A30, H⟩ := H
  have A3 := Aside0.mk A30
  clear A30
  have H' := Aside0.mk H
  clear H
  go_enter Try.func28, Try.ntmps28
  go_wp2_with (first | ((with_reducible refine gate_dst (N := 2) rfl ?_); refine box_event ?hg (N := 2) ?hd (cs := #[.slice A0_0 l0_0.length c0_0]) (t := 25) ?hr ?_; (case hd => rfl); (case hg => rfl); (case hr => first | (go_simp; done) | (go_simp; rfl)); intro gb213 hg w4 hbox hb; replace HO0_0 := Aside0.mk (Kd.V_below (Kd.V_elderB (by (with_reducible repeat (first | apply Kd.V_alloc | apply Kd.V_drewN | apply Kd.V_drew)); exact HO0_0.out) gb213 (Nat.le_of_eq hg.symm)) hb); have BK213 := Aside0.mk (hbox); have GW213 := Aside0.mk ((by rw [hg]; exact (below_size (by repeat (first | (with_reducible first | exact HB.out | apply below_alloc | apply pw_below_drewN | apply below_drew1) | exact HB.out))) : w.heap.size ≤ gb213)); have GE213 := Aside0.mk ((by rw [hg]; exact (below_size (by repeat (first | (with_reducible first | exact HB.out | apply below_alloc | apply pw_below_drewN | apply below_drew1) | exact HB.out))) : w.heap.size ≤ gb213)); replace HB := Aside0.mk (below_step (by repeat (first | (with_reducible first | exact HB.out | apply below_alloc | apply pw_below_drewN | apply below_drew1) | exact HB.out)) hb); clear hb hbox hg) | ((with_reducible refine gate_dst (N := 4) rfl ?_); refine box_event ?hg (N := 4) ?hd (cs := #[.slice none 0 0]) (t := 25) ?hr ?_; (case hd => rfl); (case hg => rfl); (case hr => first | (go_simp; done) | (go_simp; rfl)); intro gb214 hg w5 hbox hb; replace HO0_0 := Aside0.mk (Kd.V_below (Kd.V_elderB (by (with_reducible repeat (first | apply Kd.V_alloc | apply Kd.V_drewN | apply Kd.V_drew)); exact HO0_0.out) gb214 (Nat.le_of_eq hg.symm)) hb); have BK214 := Aside0.mk (hbox); have GW214 := Aside0.mk ((by rw [hg]; exact (below_size (by repeat (first | (with_reducible first | exact HB.out | apply below_alloc | apply pw_below_drewN | apply below_drew1 | refine below_set ?_ GE213.out) | exact HB.out))) : w.heap.size ≤ gb214)); have GE214 := Aside0.mk ((by rw [hg]; exact (below_size (by repeat (first | (with_reducible first | exact HB.out | apply below_alloc | apply pw_below_drewN | apply below_drew1 | refine below_set ?_ GE213.out) | exact HB.out))) : w.heap.size ≤ gb214)); replace HB := Aside0.mk (below_step (by repeat (first | (with_reducible first | exact HB.out | apply below_alloc | apply pw_below_drewN | apply below_drew1 | refine below_set ?_ GE213.out) | exact HB.out)) hb); have NB213_214 := Aside0.mk ((by rw [hg]; exact Nat.ne_of_lt (blk_lt (g := gb213) (o := .cells #[.slice A0_0 l0_0.length c0_0] 25 (0, 0)) (by (with_reducible repeat (first | refine blk_drewN ?_ _ | refine blk_drew ?_ | refine blk_alloc ?_ _)); exact BK213.out)) : gb213 ≠ gb214)); have NB214_213 := Aside0.mk ((by rw [hg]; exact Nat.ne_of_gt (blk_lt (g := gb213) (o := .cells #[.slice A0_0 l0_0.length c0_0] 25 (0, 0)) (by (with_reducible repeat (first | refine blk_drewN ?_ _ | refine blk_drew ?_ | refine blk_alloc ?_ _)); exact BK213.out)) : gb214 ≠ gb213)); replace BK213 := Aside0.mk (blk_below (g := gb213) (o := .cells #[.slice A0_0 l0_0.length c0_0] 25 (0, 0)) (by (with_reducible repeat (first | refine blk_drewN ?_ _ | refine blk_drew ?_ | refine blk_alloc ?_ _)); exact BK213.out) hb); clear hb hbox hg) | ((with_reducible refine gate_callee (f := 26) rfl ?_); refine goesL_ (some 6) rfl rfl Try.func26 (by kernel_rfl) rfl #[.int .u64 1] rfl (by (try simp only [List.map_toArray, List.map_cons, List.map_nil]); first | done | rfl | (simp only [List.length_drop, List.length_take]; rfl)) ?_; (with_reducible refine (nat_Of.calls k 1 t215 _ A3.out).mono ?_); rintro e w6 ⟨v216, rfl, ho0, hb⟩; refine ⟨_, rfl, ?_⟩; replace HO0_0 := Aside0.mk (Kd.V_elder' (by (with_reducible repeat (first | apply Kd.V_alloc | apply Kd.V_drewN | apply Kd.V_drew)); exact HO0_0.out) (Kd.R_base ho0) hb); have HO217 := Aside0.mk (Kd.R_lower (Kd.R_newM (M := fun k_ => (w.heap.size ≤ k_)) ho0 (below_size (by repeat (first | (with_reducible first | exact HB.out | apply below_alloc | apply pw_below_drewN | apply below_drew1 | refine below_set ?_ GE213.out | refine below_set ?_ GE214.out) | exact HB.out))) (fun k_ h_ => h_)) (below_size (by repeat (first | (with_reducible first | exact HB.out | apply below_alloc | apply pw_below_drewN | apply below_drew1 | refine below_set ?_ GE213.out | refine below_set ?_ GE214.out) | exact HB.out)))); replace BK213 := Aside0.mk (blk_below (g := gb213) (o := .cells #[.slice A0_0 l0_0.length c0_0] 25 (0, 0)) (by (with_reducible repeat (first | refine blk_drewN ?_ _ | refine blk_drew ?_ | refine blk_alloc ?_ _)); exact BK213.out) hb); replace BK214 := Aside0.mk (blk_below (g := gb214) (o := .cells #[.slice none 0 0] 25 (0, 0)) (by (with_reducible repeat (first | refine blk_drewN ?_ _ | refine blk_drew ?_ | refine blk_alloc ?_ _)); exact BK214.out) hb); replace HB := Aside0.mk (below_step (by repeat (first | (with_reducible first | exact HB.out | apply below_alloc | apply pw_below_drewN | apply below_drew1 | refine below_set ?_ GE213.out | refine below_set ?_ GE214.out) | exact HB.out)) hb)) | ((with_reducible refine gate_dst (N := 5) rfl ?_); refine box_event ?hg (N := 5) ?hd (cs := #[.slice none 0 0]) (t := 25) ?hr ?_; (case hd => rfl); (case hg => rfl); (case hr => first | (go_simp; done) | (go_simp; rfl)); intro gb218 hg w7 hbox hb; replace HO0_0 := Aside0.mk (Kd.V_below (Kd.V_elderB (by (with_reducible repeat (first | apply Kd.V_alloc | apply Kd.V_drewN | apply Kd.V_drew)); exact HO0_0.out) gb218 (Nat.le_of_eq hg.symm)) hb); replace HO217 := Aside0.mk (Kd.R_below (by (with_reducible repeat (first | apply Kd.R_alloc | apply Kd.R_drewN | apply Kd.R_drew)); exact HO217.out) hb); have BK218 := Aside0.mk (hbox); have GW218 := Aside0.mk ((by rw [hg]; exact (below_size (by repeat (first | (with_reducible first | exact HB.out | apply below_alloc | apply pw_below_drewN | apply below_drew1 | refine below_set ?_ GE213.out | refine below_set ?_ GE214.out) | exact HB.out))) : w.heap.size ≤ gb218)); have GE218 := Aside0.mk ((by rw [hg]; exact (below_size (by repeat (first | (with_reducible first | exact HB.out | apply below_alloc | apply pw_below_drewN | apply below_drew1 | refine below_set ?_ GE213.out | refine below_set ?_ GE214.out) | exact HB.out))) : w.heap.size ≤ gb218)); replace HB := Aside0.mk (below_step (by repeat (first | (with_reducible first | exact HB.out | apply below_alloc | apply pw_below_drewN | apply below_drew1 | refine below_set ?_ GE213.out | refine below_set ?_ GE214.out) | exact HB.out)) hb); have NB213_218 := Aside0.mk ((by rw [hg]; exact Nat.ne_of_lt (blk_lt (g := gb213) (o := .cells #[.slice A0_0 l0_0.length c0_0] 25 (0, 0)) (by (with_reducible repeat (first | refine blk_drewN ?_ _ | refine blk_drew ?_ | refine blk_alloc ?_ _)); exact BK213.out)) : gb213 ≠ gb218)); have NB218_213 := Aside0.mk ((by rw [hg]; exact Nat.ne_of_gt (blk_lt (g := gb213) (o := .cells #[.slice A0_0 l0_0.length c0_0] 25 (0, 0)) (by (with_reducible repeat (first | refine blk_drewN ?_ _ | refine blk_drew ?_ | refine blk_alloc ?_ _)); exact BK213.out)) : gb218 ≠ gb213)); replace BK213 := Aside0.mk (blk_below (g := gb213) (o := .cells #[.slice A0_0 l0_0.length c0_0] 25 (0, 0)) (by (with_reducible repeat (first | refine blk_drewN ?_ _ | refine blk_drew ?_ | refine blk_alloc ?_ _)); exact BK213.out) hb); have NB214_218 := Aside0.mk ((by rw [hg]; exact Nat.ne_of_lt (blk_lt (g := gb214) (o := .cells #[.slice none 0 0] 25 (0, 0)) (by (with_reducible repeat (first | refine blk_drewN ?_ _ | refine blk_drew ?_ | refine blk_alloc ?_ _)); exact BK214.out)) : gb214 ≠ gb218)); have NB218_214 := Aside0.mk ((by rw [hg]; exact Nat.ne_of_gt (blk_lt (g := gb214) (o := .cells #[.slice none 0 0] 25 (0, 0)) (by (with_reducible repeat (first | refine blk_drewN ?_ _ | refine blk_drew ?_ | refine blk_alloc ?_ _)); exact BK214.out)) : gb218 ≠ gb214)); replace BK214 := Aside0.mk (blk_below (g := gb214) (o := .cells #[.slice none 0 0] 25 (0, 0)) (by (with_reducible repeat (first | refine blk_drewN ?_ _ | refine blk_drew ?_ | refine blk_alloc ?_ _)); exact BK214.out) hb); clear hb hbox hg; obtain ⟨Ao8, co8, eo8⟩ := Kd.R_slice HO217.out; subst eo8; have hnb9 := NB218_213.out; have hnc9 := NB213_218.out; have hnb10 := NB218_214.out; have hnc10 := NB214_218.out; have hcz11_0 : w7.cell? ⟨gb218, 0, none⟩ = some (.slice none 0 0) := (blk_cell BK218.out 0).trans rfl; have hfz11_0 := blk_frozen BK218.out 0))
  (try simp only [Act.put, List.setIfInBounds_toArray, List.set_cons_zero, List.set_cons_succ])
  go_loopg [1] k (fun kq v1 w' => ∃ (x1_1 : Int) (x214000_1 : List Int) (x219000_1 : List Int) (u214000 : Value) (u219000 : Value), v1 = .int .i64 x1_1 ∧ Aside0 (times_Pow.l0 kq x1_1 x214000_1 x219000_1 = some r) ∧ Aside0 (kq ≤ k) ∧ Aside0 (Kd.V (Kd.int .u32) 23 w' w.heap.size (fun k_ => (P0_0_ k_ ∨ w.heap.size ≤ k_) ∧ some k_ ≠ (u219000 : Value).ownBlock ∧ k_ ≠ gb213 ∧ k_ ≠ gb214 ∧ k_ ≠ gb218) u214000 x214000_1) ∧ Aside0 (Kd.R (Kd.int .u32) 23 w' w.heap.size (fun k_ => (w.heap.size ≤ k_)) u219000 x219000_1) ∧ Aside0 (w'.heap[gb213]? = some (.cells #[u214000] 25 (0, 0))) ∧ Aside0 (w'.heap[gb214]? = some (.cells #[(.slice none 0 0)] 25 (0, 0))) ∧ Aside0 (w'.heap[gb218]? = some (.cells #[u219000] 25 (0, 0))) ∧ Aside0 (Below w.heap.size w w'))
  case atStart => exact ⟨(a1), (l0_0), (t215), (.slice A0_0 l0_0.length c0_0), (.slice Ao8 t215.length co8), rfl, H', ⟨Nat.le_refl _⟩, ⟨by (with_reducible repeat (first | apply Kd.V_alloc | apply Kd.V_drewN | apply Kd.V_drew)); exact Kd.V_mono (Kd.V_far (p := ⟨gb218, 0, none⟩) (Kd.V_mono HO0_0.out (fun k_ hk => (⟨hk, hk.2⟩ : _ ∧ k_ ≠ gb218))) (fun _ hk => hk.2) (.slice Ao8 t215.length co8)) (fun _ hk => ⟨hk.1.1.1.1.1, ⟨hk.1.1.2, ⟨hk.1.1.1.1.2, ⟨hk.1.1.1.2, hk.1.2⟩⟩⟩⟩)⟩, ⟨by (with_reducible repeat (first | apply Kd.R_alloc | apply Kd.R_drewN | apply Kd.R_drew)); exact Kd.R_mono (Kd.R_far (p := ⟨gb218, 0, none⟩) (Kd.R_types HO217.out BK218.out (by decide)) (fun _ hk => hk.2) (.slice Ao8 t215.length co8)) (fun _ hk => hk.1.1)⟩, ⟨by (with_reducible repeat (first | refine blk_drewN ?_ _ | refine blk_drew ?_ | refine blk_alloc ?_ _)); refine blk_far ?_ NB213_218.out _; (with_reducible repeat (first | refine blk_drewN ?_ _ | refine blk_drew ?_ | refine blk_alloc ?_ _)); exact BK213.out⟩, ⟨by (with_reducible repeat (first | refine blk_drewN ?_ _ | refine blk_drew ?_ | refine blk_alloc ?_ _)); refine blk_far ?_ NB214_218.out _; (with_reducible repeat (first | refine blk_drewN ?_ _ | refine blk_drew ?_ | refine blk_alloc ?_ _)); exact BK214.out⟩, ⟨by (with_reducible repeat (first | refine blk_drewN ?_ _ | refine blk_drew ?_ | refine blk_alloc ?_ _)); refine blk_put (cs := #[.slice none 0 0]) ?_ 0 _ rfl; (with_reducible repeat (first | refine blk_drewN ?_ _ | refine blk_drew ?_ | refine blk_alloc ?_ _)); exact BK218.out⟩, ⟨by repeat (first | (with_reducible first | exact HB.out | apply below_alloc | apply pw_below_drewN | apply below_drew1 | refine below_set ?_ GE213.out | refine below_set ?_ GE214.out | refine below_set ?_ GE218.out) | exact HB.out)⟩⟩
  case round =>
    clear H'
    try clear c1
    try clear c2
    try clear p2
    try clear c9
    try clear c10
    try clear hcz11_0
    try clear hfz11_0
    obtain ⟨x1_1, x214000_1, x219000_1, u214000, u219000, rfl, HA, HK1, HO_214000, HO_219000, BK213, BK214, BK218, HB⟩ := hrel
    cases gk with
    | zero => exact absurd HA.out (by simp [times_Pow.l0])
    | succ k1 =>
      have H := HA.out
      clear HA
      simp only [times_Pow.l0] at H
      by_cases c12 : x1_1 > 0
      rotate_left
      · rw [if_neg c12] at H
        have c12b0 : decide (0 < x1_1) = false := decide_eq_false c12
        clear c12
        obtain rfl := Option.some.inj H
        have hnb50 := NB218_213.out
        have hnc50 := NB213_218.out
        have hnb51 := NB218_214.out
        have hnc51 := NB214_218.out
        have hcz52_0 : wr.cell? ⟨gb218, 0, none⟩ = some (u219000) := (blk_cell BK218.out 0).trans rfl
        have hfz52_0 := blk_frozen BK218.out 0
        obtain ⟨Ao53, co53, eo53⟩ := Kd.R_slice HO_219000.out
        subst eo53
        have hnb54 := NB214_213.out
        have hnc54 := NB213_214.out
        have hcz55_0 : wr.cell? ⟨gb214, 0, none⟩ = some (.slice none 0 0) := (blk_cell BK214.out 0).trans rfl
        have hfz55_0 := blk_frozen BK214.out 0
        go_wp2
        refine bodyPost_ret (results_cell_row rfl _ _ gb214 25 #[.slice Ao53 x219000_1.length co53] (0, 0) _ rfl (by (with_reducible repeat (first | refine blk_drewN ?_ _ | refine blk_drew ?_ | refine blk_alloc ?_ _)); refine blk_put (cs := #[.slice none 0 0]) ?_ 0 _ rfl; (with_reducible repeat (first | refine blk_drewN ?_ _ | refine blk_drew ?_ | refine blk_alloc ?_ _)); exact BK214.out) Try.underlying25 rfl (by kernel_rfl)) rfl ?_
        exact ⟨_, rfl, by (with_reducible repeat (first | apply Kd.R_alloc | apply Kd.R_drewN | apply Kd.R_drew)); exact Kd.R_mono (Kd.R_far (p := ⟨gb214, 0, none⟩) (Kd.R_types HO_219000.out BK214.out (by decide)) (fun _ hk => hk.2) (.slice Ao53 x219000_1.length co53)) (fun _ hk => hk.1), by repeat (first | (with_reducible first | exact HB.out | apply below_alloc | apply pw_below_drewN | apply below_drew1 | refine below_set ?_ GE213.out | refine below_set ?_ GE214.out | refine below_set ?_ GE218.out) | exact HB.out)⟩

      rw [if_pos c12] at H
      have c12b0 : decide (0 < x1_1) = true := decide_eq_true c12
      clear c12
      by_cases c13 : (Go.bits .and .i64 x1_1 1) = 1
      rotate_left
      · rw [if_neg c13] at H
        have c13b0 : ((Go.bits .and .i64 x1_1 1) == 1) = false := beq_eq_false_iff_ne.mpr c13
        have c13b1 : ((Go.bits .and .i64 x1_1 1) != 1) = true := bne_iff_ne.mpr c13
        by_cases c41 : x1_1 > 1
        rotate_left
        · rw [if_neg c41] at H
          have c41b0 : decide (1 < x1_1) = false := decide_eq_false c41
          clear c41
          have H' := Aside0.mk H
          clear H
          go_wp2
          go_roundg k1
          case measure => have := HK1.out; omega
          case rel => exact ⟨(x1_1 / 2), (x214000_1), (x219000_1), (u214000), (u219000), rfl, H', ⟨by have := HK1.out; omega⟩, ⟨by (with_reducible repeat (first | apply Kd.V_alloc | apply Kd.V_drewN | apply Kd.V_drew)); exact HO_214000.out⟩, ⟨by (with_reducible repeat (first | apply Kd.R_alloc | apply Kd.R_drewN | apply Kd.R_drew)); exact HO_219000.out⟩, ⟨by (with_reducible repeat (first | refine blk_drewN ?_ _ | refine blk_drew ?_ | refine blk_alloc ?_ _)); exact BK213.out⟩, ⟨by (with_reducible repeat (first | refine blk_drewN ?_ _ | refine blk_drew ?_ | refine blk_alloc ?_ _)); exact BK214.out⟩, ⟨by (with_reducible repeat (first | refine blk_drewN ?_ _ | refine blk_drew ?_ | refine blk_alloc ?_ _)); exact BK218.out⟩, ⟨by repeat (first | (with_reducible first | exact HB.out | apply below_alloc | apply pw_below_drewN | apply below_drew1 | refine below_set ?_ GE213.out | refine below_set ?_ GE214.out | refine below_set ?_ GE218.out) | exact HB.out)⟩⟩
        rw [if_pos c41] at H
        have c41b0 : decide (1 < x1_1) = true := decide_eq_true c41
        clear c41
        replace H := Option.bind_eq_some_iff.mp H
        obtain ⟨t225, A420, H⟩ := H
        have A42 := Aside0.mk A420
        clear A420
        have H' := Aside0.mk H
        clear H
        have hnb43 := NB213_214.out
        have hnc43 := NB214_213.out
        have hnb44 := NB213_218.out
        have hnc44 := NB218_213.out
        have hcz45_0 : wr.cell? ⟨gb213, 0, none⟩ = some (u214000) := (blk_cell BK213.out 0).trans rfl
        have hfz45_0 := blk_frozen BK213.out 0
        obtain ⟨Ao46, co46, eo46⟩ := Kd.V_slice HO_214000.out
        subst eo46
        go_wp2_with (first | ((with_reducible refine gate_callee (f := 24) rfl ?_); refine goesL_ (some 21) rfl rfl Try.func24 (by kernel_rfl) rfl #[.agg #[.slice Ao46 x214000_1.length co46], .agg #[.slice Ao46 x214000_1.length co46]] rfl (by (try simp only [List.map_toArray, List.map_cons, List.map_nil]); first | done | rfl | (simp only [List.length_drop, List.length_take]; rfl)) ?_; (with_reducible refine (times_Mul.calls k1 _ _ x214000_1 _ _ x214000_1 t225 _ ?side1 ?side2 ?side3 ?side4 A42.out).mono ?_); (case side1 => repeat (first | exact (Kd.V_reads' HO_214000.out).2.2 | (with_reducible refine Kd.C_alloc ?_ _) | (with_reducible refine Kd.C_drewN ?_ _) | (with_reducible refine Kd.C_drew ?_))); (case side2 => exact (Kd.V_reads' HO_214000.out).2.1); (case side3 => repeat (first | exact (Kd.V_reads' HO_214000.out).2.2 | (with_reducible refine Kd.C_alloc ?_ _) | (with_reducible refine Kd.C_drewN ?_ _) | (with_reducible refine Kd.C_drew ?_))); (case side4 => exact (Kd.V_reads' HO_214000.out).2.1); rintro e w47 ⟨v226, rfl, ho0, hb⟩; refine ⟨_, rfl, ?_⟩; replace HO_214000 := Aside0.mk (Kd.V_elder' (by (with_reducible repeat (first | apply Kd.V_alloc | apply Kd.V_drewN | apply Kd.V_drew)); exact HO_214000.out) (Kd.R_base ho0) hb); have HO227 := Aside0.mk (Kd.R_lower (Kd.R_new' (Kd.R_newM (M := fun k_ => (w.heap.size ≤ k_)) ho0 (below_size (by repeat (first | (with_reducible first | exact HB.out | apply below_alloc | apply pw_below_drewN | apply below_drew1 | refine below_set ?_ GE213.out | refine below_set ?_ GE214.out | refine below_set ?_ GE218.out) | exact HB.out))) (fun k_ h_ => h_)) (Kd.R_lt (by (with_reducible repeat (first | apply Kd.R_alloc | apply Kd.R_drewN | apply Kd.R_drew)); exact HO_219000.out))) (below_size (by repeat (first | (with_reducible first | exact HB.out | apply below_alloc | apply pw_below_drewN | apply below_drew1 | refine below_set ?_ GE213.out | refine below_set ?_ GE214.out | refine below_set ?_ GE218.out) | exact HB.out)))); replace HO_219000 := Aside0.mk (Kd.R_elder' (by (with_reducible repeat (first | apply Kd.R_alloc | apply Kd.R_drewN | apply Kd.R_drew)); exact HO_219000.out) (Kd.R_base ho0) hb); replace BK213 := Aside0.mk (blk_below (g := gb213) (o := .cells #[.slice Ao46 x214000_1.length co46] 25 (0, 0)) (by (with_reducible repeat (first | refine blk_drewN ?_ _ | refine blk_drew ?_ | refine blk_alloc ?_ _)); exact BK213.out) hb); replace BK214 := Aside0.mk (blk_below (g := gb214) (o := .cells #[.slice none 0 0] 25 (0, 0)) (by (with_reducible repeat (first | refine blk_drewN ?_ _ | refine blk_drew ?_ | refine blk_alloc ?_ _)); exact BK214.out) hb); replace BK218 := Aside0.mk (blk_below (g := gb218) (o := .cells #[u219000] 25 (0, 0)) (by (with_reducible repeat (first | refine blk_drewN ?_ _ | refine blk_drew ?_ | refine blk_alloc ?_ _)); exact BK218.out) hb); replace HB := Aside0.mk (below_step (by repeat (first | (with_reducible first | exact HB.out | apply below_alloc | apply pw_below_drewN | apply below_drew1 | refine below_set ?_ GE213.out | refine below_set ?_ GE214.out | refine below_set ?_ GE218.out) | exact HB.out)) hb); obtain ⟨Ao48, co48, eo48⟩ := Kd.R_slice HO227.out; subst eo48; have hcz49_0 : w47.cell? ⟨gb213, 0, none⟩ = some (.slice Ao46 x214000_1.length co46) := (blk_cell BK213.out 0).trans rfl; have hfz49_0 := blk_frozen BK213.out 0))
        go_roundg k1
        case measure => have := HK1.out; omega
        case rel => exact ⟨(x1_1 / 2), (t225), (x219000_1), (.slice Ao48 t225.length co48), (u219000), rfl, H', ⟨by have := HK1.out; omega⟩, ⟨Kd.V_mono (Kd.R_V (by (with_reducible repeat (first | apply Kd.R_alloc | apply Kd.R_drewN | apply Kd.R_drew)); exact Kd.R_mono (Kd.R_far (p := ⟨gb213, 0, none⟩) (Kd.R_types (Kd.R_types (Kd.R_types (Kd.R_types HO227.out BK213.out (by decide)) BK214.out (by decide)) BK218.out (by decide)) BK213.out (by decide)) (fun _ hk => hk.2) (.slice Ao48 t225.length co48)) (fun _ hk => (And.intro hk.1.1.1.1.1.1 (And.intro hk.1.1.1.1.2 (And.intro hk.1.1.1.2 (And.intro hk.1.1.2 hk.1.2))))))) (fun k_ hk => by first | exact ⟨(.inr (hk.1)), hk.2⟩ | exact (.inr (hk)))⟩, ⟨by (with_reducible repeat (first | apply Kd.R_alloc | apply Kd.R_drewN | apply Kd.R_drew)); exact Kd.R_mono (Kd.R_far (p := ⟨gb213, 0, none⟩) (Kd.R_types HO_219000.out BK213.out (by decide)) (fun _ hk => hk.2) (.slice Ao48 t225.length co48)) (fun _ hk => hk.1.1)⟩, ⟨by (with_reducible repeat (first | refine blk_drewN ?_ _ | refine blk_drew ?_ | refine blk_alloc ?_ _)); refine blk_put (cs := #[.slice Ao46 x214000_1.length co46]) ?_ 0 _ rfl; (with_reducible repeat (first | refine blk_drewN ?_ _ | refine blk_drew ?_ | refine blk_alloc ?_ _)); exact BK213.out⟩, ⟨by (with_reducible repeat (first | refine blk_drewN ?_ _ | refine blk_drew ?_ | refine blk_alloc ?_ _)); refine blk_far ?_ NB214_213.out _; (with_reducible repeat (first | refine blk_drewN ?_ _ | refine blk_drew ?_ | refine blk_alloc ?_ _)); exact BK214.out⟩, ⟨by (with_reducible repeat (first | refine blk_drewN ?_ _ | refine blk_drew ?_ | refine blk_alloc ?_ _)); refine blk_far ?_ NB218_213.out _; (with_reducible repeat (first | refine blk_drewN ?_ _ | refine blk_drew ?_ | refine blk_alloc ?_ _)); exact BK218.out⟩, ⟨by repeat (first | (with_reducible first | exact HB.out | apply below_alloc | apply pw_below_drewN | apply below_drew1 | refine below_set ?_ GE213.out | refine below_set ?_ GE214.out | refine below_set ?_ GE218.out) | exact HB.out)⟩⟩
      rw [if_pos c13] at H
      have c13b0 : ((Go.bits .and .i64 x1_1 1) == 1) = true := beq_iff_eq.mpr c13
      have c13b1 : ((Go.bits .and .i64 x1_1 1) != 1) = false := bne_eq_false_iff_eq.mpr c13
      clear c13
      replace H := Option.bind_eq_some_iff.mp H
      obtain ⟨t219, A140, H⟩ := H
      have A14 := Aside0.mk A140
      clear A140
      by_cases c15 : x1_1 > 1
      rotate_left
      · rw [if_neg c15] at H
        have c15b0 : decide (1 < x1_1) = false := decide_eq_false c15
        clear c15
        have H' := Aside0.mk H
        clear H
        have hnb31 := NB218_213.out
        have hnc31 := NB213_218.out
        have hnb32 := NB218_214.out
        have hnc32 := NB214_218.out
        have hcz33_0 : wr.cell? ⟨gb218, 0, none⟩ = some (u219000) := (blk_cell BK218.out 0).trans rfl
        have hfz33_0 := blk_frozen BK218.out 0
        have hnb34 := NB213_214.out
        have hnc34 := NB214_213.out
        have hcz35_0 : wr.cell? ⟨gb213, 0, none⟩ = some (u214000) := (blk_cell BK213.out 0).trans rfl
        have hfz35_0 := blk_frozen BK213.out 0
        obtain ⟨Ao36, co36, eo36⟩ := Kd.R_slice HO_219000.out
        subst eo36
        obtain ⟨Ao37, co37, eo37⟩ := Kd.V_slice HO_214000.out
        subst eo37
        go_wp2_with (first | ((with_reducible refine gate_callee (f := 24) rfl ?_); refine goesL_ (some 16) rfl rfl Try.func24 (by kernel_rfl) rfl #[.agg #[.slice Ao36 x219000_1.length co36], .agg #[.slice Ao37 x214000_1.length co37]] rfl (by (try simp only [List.map_toArray, List.map_cons, List.map_nil]); first | done | rfl | (simp only [List.length_drop, List.length_take]; rfl)) ?_; (with_reducible refine (times_Mul.calls k1 _ _ x219000_1 _ _ x214000_1 t219 _ ?side1 ?side2 ?side3 ?side4 A14.out).mono ?_); (case side1 => repeat (first | exact (Kd.R_reads' HO_219000.out).2.2 | (with_reducible refine Kd.C_alloc ?_ _) | (with_reducible refine Kd.C_drewN ?_ _) | (with_reducible refine Kd.C_drew ?_))); (case side2 => exact (Kd.R_reads' HO_219000.out).2.1); (case side3 => repeat (first | exact (Kd.V_reads' HO_214000.out).2.2 | (with_reducible refine Kd.C_alloc ?_ _) | (with_reducible refine Kd.C_drewN ?_ _) | (with_reducible refine Kd.C_drew ?_))); (case side4 => exact (Kd.V_reads' HO_214000.out).2.1); rintro e w38 ⟨v220, rfl, ho0, hb⟩; refine ⟨_, rfl, ?_⟩; replace HO_214000 := Aside0.mk (Kd.V_elder' (by (with_reducible repeat (first | apply Kd.V_alloc | apply Kd.V_drewN | apply Kd.V_drew)); exact HO_214000.out) (Kd.R_base ho0) hb); have HO221 := Aside0.mk (Kd.R_lower (Kd.R_new' (Kd.R_newM (M := fun k_ => (w.heap.size ≤ k_)) ho0 (below_size (by repeat (first | (with_reducible first | exact HB.out | apply below_alloc | apply pw_below_drewN | apply below_drew1 | refine below_set ?_ GE213.out | refine below_set ?_ GE214.out | refine below_set ?_ GE218.out) | exact HB.out))) (fun k_ h_ => h_)) (Kd.R_lt (by (with_reducible repeat (first | apply Kd.R_alloc | apply Kd.R_drewN | apply Kd.R_drew)); exact HO_219000.out))) (below_size (by repeat (first | (with_reducible first | exact HB.out | apply below_alloc | apply pw_below_drewN | apply below_drew1 | refine below_set ?_ GE213.out | refine below_set ?_ GE214.out | refine below_set ?_ GE218.out) | exact HB.out)))); replace HO_219000 := Aside0.mk (Kd.R_elder' (by (with_reducible repeat (first | apply Kd.R_alloc | apply Kd.R_drewN | apply Kd.R_drew)); exact HO_219000.out) (Kd.R_base ho0) hb); replace BK213 := Aside0.mk (blk_below (g := gb213) (o := .cells #[.slice Ao37 x214000_1.length co37] 25 (0, 0)) (by (with_reducible repeat (first | refine blk_drewN ?_ _ | refine blk_drew ?_ | refine blk_alloc ?_ _)); exact BK213.out) hb); replace BK214 := Aside0.mk (blk_below (g := gb214) (o := .cells #[.slice none 0 0] 25 (0, 0)) (by (with_reducible repeat (first | refine blk_drewN ?_ _ | refine blk_drew ?_ | refine blk_alloc ?_ _)); exact BK214.out) hb); replace BK218 := Aside0.mk (blk_below (g := gb218) (o := .cells #[.slice Ao36 x219000_1.length co36] 25 (0, 0)) (by (with_reducible repeat (first | refine blk_drewN ?_ _ | refine blk_drew ?_ | refine blk_alloc ?_ _)); exact BK218.out) hb); replace HB := Aside0.mk (below_step (by repeat (first | (with_reducible first | exact HB.out | apply below_alloc | apply pw_below_drewN | apply below_drew1 | refine below_set ?_ GE213.out | refine below_set ?_ GE214.out | refine below_set ?_ GE218.out) | exact HB.out)) hb); obtain ⟨Ao39, co39, eo39⟩ := Kd.R_slice HO221.out; subst eo39; have hcz40_0 : w38.cell? ⟨gb218, 0, none⟩ = some (.slice Ao36 x219000_1.length co36) := (blk_cell BK218.out 0).trans rfl; have hfz40_0 := blk_frozen BK218.out 0))
        go_roundg k1
        case measure => have := HK1.out; omega
        case rel => exact ⟨(x1_1 / 2), (x214000_1), (t219), (.slice Ao37 x214000_1.length co37), (.slice Ao39 t219.length co39), rfl, H', ⟨by have := HK1.out; omega⟩, ⟨by (with_reducible repeat (first | apply Kd.V_alloc | apply Kd.V_drewN | apply Kd.V_drew)); exact Kd.V_mono (Kd.V_far (p := ⟨gb218, 0, none⟩) (Kd.V_mono HO_214000.out (fun k_ hk => (⟨hk, hk.1.2.2.2.2⟩ : _ ∧ k_ ≠ gb218))) (fun _ hk => hk.2) (.slice Ao39 t219.length co39)) (fun _ hk => ⟨hk.1.1.1, ⟨hk.1.2, ⟨hk.1.1.2.2.1, ⟨hk.1.1.2.2.2.1, hk.1.1.2.2.2.2⟩⟩⟩⟩)⟩, ⟨by (with_reducible repeat (first | apply Kd.R_alloc | apply Kd.R_drewN | apply Kd.R_drew)); exact Kd.R_mono (Kd.R_far (p := ⟨gb218, 0, none⟩) (Kd.R_types HO221.out BK218.out (by decide)) (fun _ hk => hk.2) (.slice Ao39 t219.length co39)) (fun _ hk => hk.1.1.1)⟩, ⟨by (with_reducible repeat (first | refine blk_drewN ?_ _ | refine blk_drew ?_ | refine blk_alloc ?_ _)); refine blk_far ?_ NB213_218.out _; (with_reducible repeat (first | refine blk_drewN ?_ _ | refine blk_drew ?_ | refine blk_alloc ?_ _)); exact BK213.out⟩, ⟨by (with_reducible repeat (first | refine blk_drewN ?_ _ | refine blk_drew ?_ | refine blk_alloc ?_ _)); refine blk_far ?_ NB214_218.out _; (with_reducible repeat (first | refine blk_drewN ?_ _ | refine blk_drew ?_ | refine blk_alloc ?_ _)); exact BK214.out⟩, ⟨by (with_reducible repeat (first | refine blk_drewN ?_ _ | refine blk_drew ?_ | refine blk_alloc ?_ _)); refine blk_put (cs := #[.slice Ao36 x219000_1.length co36]) ?_ 0 _ rfl; (with_reducible repeat (first | refine blk_drewN ?_ _ | refine blk_drew ?_ | refine blk_alloc ?_ _)); exact BK218.out⟩, ⟨by repeat (first | (with_reducible first | exact HB.out | apply below_alloc | apply pw_below_drewN | apply below_drew1 | refine below_set ?_ GE213.out | refine below_set ?_ GE214.out | refine below_set ?_ GE218.out) | exact HB.out)⟩⟩
      rw [if_pos c15] at H
      have c15b0 : decide (1 < x1_1) = true := decide_eq_true c15
      clear c15
      replace H := Option.bind_eq_some_iff.mp H
      obtain ⟨t222, A160, H⟩ := H
      have A16 := Aside0.mk A160
      clear A160
      have H' := Aside0.mk H
      clear H
      have hnb17 := NB218_213.out
      have hnc17 := NB213_218.out
      have hnb18 := NB218_214.out
      have hnc18 := NB214_218.out
      have hcz19_0 : wr.cell? ⟨gb218, 0, none⟩ = some (u219000) := (blk_cell BK218.out 0).trans rfl
      have hfz19_0 := blk_frozen BK218.out 0
      have hnb20 := NB213_214.out
      have hnc20 := NB214_213.out
      have hcz21_0 : wr.cell? ⟨gb213, 0, none⟩ = some (u214000) := (blk_cell BK213.out 0).trans rfl
      have hfz21_0 := blk_frozen BK213.out 0
      obtain ⟨Ao22, co22, eo22⟩ := Kd.R_slice HO_219000.out
      subst eo22
      obtain ⟨Ao23, co23, eo23⟩ := Kd.V_slice HO_214000.out
      subst eo23
      go_wp2_with (first | ((with_reducible refine gate_callee (f := 24) rfl ?_); refine goesL_ (some 16) rfl rfl Try.func24 (by kernel_rfl) rfl #[.agg #[.slice Ao22 x219000_1.length co22], .agg #[.slice Ao23 x214000_1.length co23]] rfl (by (try simp only [List.map_toArray, List.map_cons, List.map_nil]); first | done | rfl | (simp only [List.length_drop, List.length_take]; rfl)) ?_; (with_reducible refine (times_Mul.calls k1 _ _ x219000_1 _ _ x214000_1 t219 _ ?side1 ?side2 ?side3 ?side4 A14.out).mono ?_); (case side1 => repeat (first | exact (Kd.R_reads' HO_219000.out).2.2 | (with_reducible refine Kd.C_alloc ?_ _) | (with_reducible refine Kd.C_drewN ?_ _) | (with_reducible refine Kd.C_drew ?_))); (case side2 => exact (Kd.R_reads' HO_219000.out).2.1); (case side3 => repeat (first | exact (Kd.V_reads' HO_214000.out).2.2 | (with_reducible refine Kd.C_alloc ?_ _) | (with_reducible refine Kd.C_drewN ?_ _) | (with_reducible refine Kd.C_drew ?_))); (case side4 => exact (Kd.V_reads' HO_214000.out).2.1); rintro e w24 ⟨v220, rfl, ho0, hb⟩; refine ⟨_, rfl, ?_⟩; replace HO_214000 := Aside0.mk (Kd.V_elder' (by (with_reducible repeat (first | apply Kd.V_alloc | apply Kd.V_drewN | apply Kd.V_drew)); exact HO_214000.out) (Kd.R_base ho0) hb); have HO221 := Aside0.mk (Kd.R_lower (Kd.R_new' (Kd.R_newM (M := fun k_ => (w.heap.size ≤ k_)) ho0 (below_size (by repeat (first | (with_reducible first | exact HB.out | apply below_alloc | apply pw_below_drewN | apply below_drew1 | refine below_set ?_ GE213.out | refine below_set ?_ GE214.out | refine below_set ?_ GE218.out) | exact HB.out))) (fun k_ h_ => h_)) (Kd.R_lt (by (with_reducible repeat (first | apply Kd.R_alloc | apply Kd.R_drewN | apply Kd.R_drew)); exact HO_219000.out))) (below_size (by repeat (first | (with_reducible first | exact HB.out | apply below_alloc | apply pw_below_drewN | apply below_drew1 | refine below_set ?_ GE213.out | refine below_set ?_ GE214.out | refine below_set ?_ GE218.out) | exact HB.out)))); replace HO_219000 := Aside0.mk (Kd.R_elder' (by (with_reducible repeat (first | apply Kd.R_alloc | apply Kd.R_drewN | apply Kd.R_drew)); exact HO_219000.out) (Kd.R_base ho0) hb); replace BK213 := Aside0.mk (blk_below (g := gb213) (o := .cells #[.slice Ao23 x214000_1.length co23] 25 (0, 0)) (by (with_reducible repeat (first | refine blk_drewN ?_ _ | refine blk_drew ?_ | refine blk_alloc ?_ _)); exact BK213.out) hb); replace BK214 := Aside0.mk (blk_below (g := gb214) (o := .cells #[.slice none 0 0] 25 (0, 0)) (by (with_reducible repeat (first | refine blk_drewN ?_ _ | refine blk_drew ?_ | refine blk_alloc ?_ _)); exact BK214.out) hb); replace BK218 := Aside0.mk (blk_below (g := gb218) (o := .cells #[.slice Ao22 x219000_1.length co22] 25 (0, 0)) (by (with_reducible repeat (first | refine blk_drewN ?_ _ | refine blk_drew ?_ | refine blk_alloc ?_ _)); exact BK218.out) hb); replace HB := Aside0.mk (below_step (by repeat (first | (with_reducible first | exact HB.out | apply below_alloc | apply pw_below_drewN | apply below_drew1 | refine below_set ?_ GE213.out | refine below_set ?_ GE214.out | refine below_set ?_ GE218.out) | exact HB.out)) hb); obtain ⟨Ao25, co25, eo25⟩ := Kd.R_slice HO221.out; subst eo25; have hcz26_0 : w24.cell? ⟨gb218, 0, none⟩ = some (.slice Ao22 x219000_1.length co22) := (blk_cell BK218.out 0).trans rfl; have hfz26_0 := blk_frozen BK218.out 0; have hcz27_0 : w24.cell? ⟨gb213, 0, none⟩ = some (.slice Ao23 x214000_1.length co23) := (blk_cell BK213.out 0).trans rfl; have hfz27_0 := blk_frozen BK213.out 0) | ((with_reducible refine gate_callee (f := 24) rfl ?_); refine goesL_ (some 21) rfl rfl Try.func24 (by kernel_rfl) rfl #[.agg #[.slice Ao23 x214000_1.length co23], .agg #[.slice Ao23 x214000_1.length co23]] rfl (by (try simp only [List.map_toArray, List.map_cons, List.map_nil]); first | done | rfl | (simp only [List.length_drop, List.length_take]; rfl)) ?_; (with_reducible refine (times_Mul.calls k1 _ _ x214000_1 _ _ x214000_1 t222 _ ?side1 ?side2 ?side3 ?side4 A16.out).mono ?_); (case side1 => exact (Kd.V_reads' (e := 23) (base := w.heap.size) (n := x214000_1.length) (c := co23) (by (with_reducible repeat (first | apply Kd.V_alloc | apply Kd.V_drewN | apply Kd.V_drew)); exact (Kd.V_mono (Kd.V_far (p := ⟨gb218, 0, none⟩) (Kd.V_mono HO_214000.out (fun k_ hk => (⟨hk, hk.1.2.2.2.2⟩ : _ ∧ k_ ≠ gb218))) (fun _ hk => hk.2) (.slice Ao25 t219.length co25)) (fun _ h_ => h_.1)))).2.2); (case side2 => exact (Kd.V_reads' HO_214000.out).2.1); (case side3 => exact (Kd.V_reads' (e := 23) (base := w.heap.size) (n := x214000_1.length) (c := co23) (by (with_reducible repeat (first | apply Kd.V_alloc | apply Kd.V_drewN | apply Kd.V_drew)); exact (Kd.V_mono (Kd.V_far (p := ⟨gb218, 0, none⟩) (Kd.V_mono HO_214000.out (fun k_ hk => (⟨hk, hk.1.2.2.2.2⟩ : _ ∧ k_ ≠ gb218))) (fun _ hk => hk.2) (.slice Ao25 t219.length co25)) (fun _ h_ => h_.1)))).2.2); (case side4 => exact (Kd.V_reads' HO_214000.out).2.1); rintro e w28 ⟨v223, rfl, ho0, hb⟩; refine ⟨_, rfl, ?_⟩; replace HO_214000 := Aside0.mk (Kd.V_elder' (by (with_reducible repeat (first | apply Kd.V_alloc | apply Kd.V_drewN | apply Kd.V_drew)); exact (Kd.V_mono (Kd.V_far (p := ⟨gb218, 0, none⟩) (Kd.V_mono HO_214000.out (fun k_ hk => (⟨hk, hk.1.2.2.2.2⟩ : _ ∧ k_ ≠ gb218))) (fun _ hk => hk.2) (.slice Ao25 t219.length co25)) (fun _ h_ => h_.1))) (Kd.R_base ho0) hb); have HO224 := Aside0.mk (Kd.R_lower (Kd.R_new' (Kd.R_new' (Kd.R_newM (M := fun k_ => (w.heap.size ≤ k_)) ho0 (below_size (by repeat (first | (with_reducible first | exact HB.out | apply below_alloc | apply pw_below_drewN | apply below_drew1 | refine below_set ?_ GE213.out | refine below_set ?_ GE214.out | refine below_set ?_ GE218.out) | exact HB.out))) (fun k_ h_ => h_)) (Kd.R_lt (by (with_reducible repeat (first | apply Kd.R_alloc | apply Kd.R_drewN | apply Kd.R_drew)); exact (Kd.R_mono (Kd.R_far (p := ⟨gb218, 0, none⟩) (Kd.R_types HO_219000.out BK218.out (by decide)) (fun _ hk => hk.2) (.slice Ao25 t219.length co25)) (fun _ h_ => h_.1))))) (Kd.R_lt (by (with_reducible repeat (first | apply Kd.R_alloc | apply Kd.R_drewN | apply Kd.R_drew)); exact (Kd.R_mono (Kd.R_far (p := ⟨gb218, 0, none⟩) (Kd.R_types HO221.out BK218.out (by decide)) (fun _ hk => hk.2) (.slice Ao25 t219.length co25)) (fun _ h_ => h_.1))))) (below_size (by repeat (first | (with_reducible first | exact HB.out | apply below_alloc | apply pw_below_drewN | apply below_drew1 | refine below_set ?_ GE213.out | refine below_set ?_ GE214.out | refine below_set ?_ GE218.out) | exact HB.out)))); replace HO_219000 := Aside0.mk (Kd.R_elder' (by (with_reducible repeat (first | apply Kd.R_alloc | apply Kd.R_drewN | apply Kd.R_drew)); exact (Kd.R_mono (Kd.R_far (p := ⟨gb218, 0, none⟩) (Kd.R_types HO_219000.out BK218.out (by decide)) (fun _ hk => hk.2) (.slice Ao25 t219.length co25)) (fun _ h_ => h_.1))) (Kd.R_base ho0) hb); replace HO221 := Aside0.mk (Kd.R_elder' (by (with_reducible repeat (first | apply Kd.R_alloc | apply Kd.R_drewN | apply Kd.R_drew)); exact (Kd.R_mono (Kd.R_far (p := ⟨gb218, 0, none⟩) (Kd.R_types HO221.out BK218.out (by decide)) (fun _ hk => hk.2) (.slice Ao25 t219.length co25)) (fun _ h_ => h_.1))) (Kd.R_base ho0) hb); replace BK213 := Aside0.mk (blk_below (g := gb213) (o := .cells #[.slice Ao23 x214000_1.length co23] 25 (0, 0)) (by (with_reducible repeat (first | refine blk_drewN ?_ _ | refine blk_drew ?_ | refine blk_alloc ?_ _)); refine blk_far ?_ NB213_218.out _; (with_reducible repeat (first | refine blk_drewN ?_ _ | refine blk_drew ?_ | refine blk_alloc ?_ _)); exact BK213.out) hb); replace BK214 := Aside0.mk (blk_below (g := gb214) (o := .cells #[.slice none 0 0] 25 (0, 0)) (by (with_reducible repeat (first | refine blk_drewN ?_ _ | refine blk_drew ?_ | refine blk_alloc ?_ _)); refine blk_far ?_ NB214_218.out _; (with_reducible repeat (first | refine blk_drewN ?_ _ | refine blk_drew ?_ | refine blk_alloc ?_ _)); exact BK214.out) hb); replace BK218 := Aside0.mk (blk_below (g := gb218) (o := .cells #[.slice Ao25 t219.length co25] 25 (0, 0)) (by (with_reducible repeat (first | refine blk_drewN ?_ _ | refine blk_drew ?_ | refine blk_alloc ?_ _)); refine blk_put (cs := #[.slice Ao22 x219000_1.length co22]) ?_ 0 _ rfl; (with_reducible repeat (first | refine blk_drewN ?_ _ | refine blk_drew ?_ | refine blk_alloc ?_ _)); exact BK218.out) hb); replace HB := Aside0.mk (below_step (by repeat (first | (with_reducible first | exact HB.out | apply below_alloc | apply pw_below_drewN | apply below_drew1 | refine below_set ?_ GE213.out | refine below_set ?_ GE214.out | refine below_set ?_ GE218.out) | exact HB.out)) hb); obtain ⟨Ao29, co29, eo29⟩ := Kd.R_slice HO224.out; subst eo29; have hcz30_0 : w28.cell? ⟨gb213, 0, none⟩ = some (.slice Ao23 x214000_1.length co23) := (blk_cell BK213.out 0).trans rfl; have hfz30_0 := blk_frozen BK213.out 0))
      go_roundg k1
      case measure => have := HK1.out; omega
      case rel => exact ⟨(x1_1 / 2), (t222), (t219), (.slice Ao29 t222.length co29), (.slice Ao25 t219.length co25), rfl, H', ⟨by have := HK1.out; omega⟩, ⟨Kd.V_mono (Kd.R_V (by (with_reducible repeat (first | apply Kd.R_alloc | apply Kd.R_drewN | apply Kd.R_drew)); exact Kd.R_mono (Kd.R_far (p := ⟨gb213, 0, none⟩) (Kd.R_types (Kd.R_types (Kd.R_types (Kd.R_types HO224.out BK213.out (by decide)) BK214.out (by decide)) BK218.out (by decide)) BK213.out (by decide)) (fun _ hk => hk.2) (.slice Ao29 t222.length co29)) (fun _ hk => (And.intro hk.1.1.1.1.1.1.1 (And.intro hk.1.1.1.1.2 (And.intro hk.1.1.1.2 (And.intro hk.1.1.2 hk.1.2))))))) (fun k_ hk => by first | exact ⟨(.inr (hk.1)), hk.2⟩ | exact (.inr (hk)))⟩, ⟨by (with_reducible repeat (first | apply Kd.R_alloc | apply Kd.R_drewN | apply Kd.R_drew)); exact Kd.R_mono (Kd.R_far (p := ⟨gb213, 0, none⟩) (Kd.R_types HO221.out BK213.out (by decide)) (fun _ hk => hk.2) (.slice Ao29 t222.length co29)) (fun _ hk => hk.1.1.1.1)⟩, ⟨by (with_reducible repeat (first | refine blk_drewN ?_ _ | refine blk_drew ?_ | refine blk_alloc ?_ _)); refine blk_put (cs := #[.slice Ao23 x214000_1.length co23]) ?_ 0 _ rfl; (with_reducible repeat (first | refine blk_drewN ?_ _ | refine blk_drew ?_ | refine blk_alloc ?_ _)); exact BK213.out⟩, ⟨by (with_reducible repeat (first | refine blk_drewN ?_ _ | refine blk_drew ?_ | refine blk_alloc ?_ _)); refine blk_far ?_ NB214_213.out _; (with_reducible repeat (first | refine blk_drewN ?_ _ | refine blk_drew ?_ | refine blk_alloc ?_ _)); exact BK214.out⟩, ⟨by (with_reducible repeat (first | refine blk_drewN ?_ _ | refine blk_drew ?_ | refine blk_alloc ?_ _)); refine blk_far ?_ NB218_213.out _; (with_reducible repeat (first | refine blk_drewN ?_ _ | refine blk_drew ?_ | refine blk_alloc ?_ _)); exact BK218.out⟩, ⟨by repeat (first | (with_reducible first | exact HB.out | apply below_alloc | apply pw_below_drewN | apply below_drew1 | refine below_set ?_ GE213.out | refine below_set ?_ GE214.out | refine below_set ?_ GE218.out) | exact HB.out)⟩⟩
end Go.Proofs.Ytcepdndhkidehaa.PA
end
section
namespace Go.Proofs.Ytcepdndhkidehaa.PA
open Go.RowKit Go.Proofs.YtcepdndhkidehaaW.PrintWords Go.Proofs.YtcepdndhkidehaaW.PrintLast Go.Proofs.YtcepdndhkidehaaW.PrintMore
attribute [local go_sem] max2_int min2_int max_two min_two max_three min_three max_four min_four   -- for this text's walks alone
set_option linter.unusedVariables false
set_option linter.unusedSimpArgs false

/-! ### times_All: function 25 -/
def times_All.l0 : Nat → List (S25) → Int → Int → List Int → Option (List Int)
  | 0, _, _, _, _ => none
  | k + 1, x7, x8, x9, x208000 => if x9 < x8 then (if 0 ≤ x9 then (if x9 < (x7.length : Int) then ((times_Mul.f k x208000 ((rd_T25 x7 x9).f0)).bind fun t210 => (times_All.l0 k x7 x8 (wrap64 (x9 + 1)) t210)) else (none)) else (none)) else (some x208000)
def times_All.f (k : Nat) (l0 : List (S25)) : Option (List Int) := (nat_Of.f k 1).bind fun t204 => (times_All.l0 k l0 (l0.length : Int) 0 t204)
theorem times_All.mono_l : ∀ k, (∀ y0 y1 y2 y3, LeO (times_All.l0 k y0 y1 y2 y3) (times_All.l0 (k + 1) y0 y1 y2 y3))
  | 0 => fun _ _ _ _ r h => by simp [times_All.l0] at h
  | k + 1 => by
    have ih0 := times_All.mono_l k
    intro y0 y1 y2 y3
    unfold times_All.l0
    repeat' first
    | (with_reducible exact ih0 _ _ _ _)
    | (with_reducible exact nat_Of.mono _ _)
    | (with_reducible exact times_Mul.mono _ _ _)
    | (with_reducible exact LeO.refl _)
    | (with_reducible exact LeO.none _)
    | (with_reducible refine LeO.ite ?_ ?_)
    | (with_reducible refine LeO.bind ?_ (fun _ => ?_))
    | exact ih0 _ _ _ _
    | exact nat_Of.mono _ _
    | exact times_Mul.mono _ _ _
    | exact LeO.none _
    | refine LeO.ite ?_ ?_
    | refine LeO.bind ?_ (fun _ => ?_)
theorem times_All.mono : ∀ a0 k, LeO (times_All.f k a0) (times_All.f (k + 1) a0) := by
  intro a0 k
  have ih0 := times_All.mono_l k
  unfold times_All.f
  repeat' first
      | (with_reducible exact ih0 _ _ _ _)
      | (with_reducible exact nat_Of.mono _ _)
      | (with_reducible exact times_Mul.mono _ _ _)
      | (with_reducible exact LeO.refl _)
      | (with_reducible exact LeO.none _)
      | (with_reducible refine LeO.ite ?_ ?_)
      | (with_reducible refine LeO.bind ?_ (fun _ => ?_))
set_option maxHeartbeats 8000000 in
set_option maxRecDepth 100000 in
theorem times_All.calls (k : Nat) (A0 : Option Addr) (c0 : Nat) (l0 : List (S25)) (r : List Int) (w : World) (hr0 : Kd.C k25 w A0 l0.length l0) (hc0 : l0.length ≤ c0) (h : times_All.f k l0 = some r) :
    Calls Try.prog 25 #[.slice A0 l0.length c0] w fun e w' => ∃ v0_ : Value, e = .returned (.agg #[v0_]) ∧ Kd.R (Kd.int .u32) 23 w' w.heap.size (fun _ => True) v0_ r ∧ Below w.heap.size w w' := by
  have hu25 := Try.underlying25
  have HR0 := Aside0.mk hr0
  have HC0 := Aside0.mk hc0
  clear hr0 hc0
  have HB := Aside0.mk (Below.refl w.heap.size w)
  have H : ((nat_Of.f k 1).bind fun t204 => (times_All.l0 k l0 (l0.length : Int) 0 t204)) = some r := h
  clear h
  replace H := Option.bind_eq_some_iff.mp H
  obtain ⟨t204, A20, H⟩ := H
  have A2 := Aside0.mk A20
  clear A20
  have H' := Aside0.mk H
  clear H
  go_enter Try.func25, Try.ntmps25
  go_wp2_with (first | ((with_reducible refine gate_dst (N := 2) rfl ?_); refine box_event ?hg (N := 2) ?hd (cs := #[.slice none 0 0]) (t := 25) ?hr ?_; (case hd => rfl); (case hg => rfl); (case hr => first | (go_simp; done) | (go_simp; rfl)); intro gb203 hg w3 hbox hb; have BK203 := Aside0.mk (hbox); have GW203 := Aside0.mk ((by rw [hg]; exact (below_size (by repeat (first | (with_reducible first | exact HB.out | apply below_alloc | apply pw_below_drewN | apply below_drew1) | exact HB.out))) : w.heap.size ≤ gb203)); have GE203 := Aside0.mk ((by rw [hg]; exact (below_size (by repeat (first | (with_reducible first | exact HB.out | apply below_alloc | apply pw_below_drewN | apply below_drew1) | exact HB.out))) : w.heap.size ≤ gb203)); replace HB := Aside0.mk (below_step (by repeat (first | (with_reducible first | exact HB.out | apply below_alloc | apply pw_below_drewN | apply below_drew1) | exact HB.out)) hb); clear hb hbox hg) | ((with_reducible refine gate_callee (f := 26) rfl ?_); refine goesL_ (some 6) rfl rfl Try.func26 (by kernel_rfl) rfl #[.int .u64 1] rfl (by (try simp only [List.map_toArray, List.map_cons, List.map_nil]); first | done | rfl | (simp only [List.length_drop, List.length_take]; rfl)) ?_; (with_reducible refine (nat_Of.calls k 1 t204 _ A2.out).mono ?_); rintro e w4 ⟨v205, rfl, ho0, hb⟩; refine ⟨_, rfl, ?_⟩; have HO206 := Aside0.mk (Kd.R_lower ho0 (below_size (by repeat (first | (with_reducible first | exact HB.out | apply below_alloc | apply pw_below_drewN | apply below_drew1 | refine below_set ?_ GE203.out) | exact HB.out)))); replace BK203 := Aside0.mk (blk_below (g := gb203) (o := .cells #[.slice none 0 0] 25 (0, 0)) (by (with_reducible repeat (first | refine blk_drewN ?_ _ | refine blk_drew ?_ | refine blk_alloc ?_ _)); exact BK203.out) hb); replace HB := Aside0.mk (below_step (by repeat (first | (with_reducible first | exact HB.out | apply below_alloc | apply pw_below_drewN | apply below_drew1 | refine below_set ?_ GE203.out) | exact HB.out)) hb)) | ((with_reducible refine gate_dst (N := 3) rfl ?_); refine box_event ?hg (N := 3) ?hd (cs := #[.slice none 0 0]) (t := 25) ?hr ?_; (case hd => rfl); (case hg => rfl); (case hr => first | (go_simp; done) | (go_simp; rfl)); intro gb207 hg w5 hbox hb; replace HO206 := Aside0.mk (Kd.R_below (by (with_reducible repeat (first | apply Kd.R_alloc | apply Kd.R_drewN | apply Kd.R_drew)); exact HO206.out) hb); have BK207 := Aside0.mk (hbox); have GW207 := Aside0.mk ((by rw [hg]; exact (below_size (by repeat (first | (with_reducible first | exact HB.out | apply below_alloc | apply pw_below_drewN | apply below_drew1 | refine below_set ?_ GE203.out) | exact HB.out))) : w.heap.size ≤ gb207)); have GE207 := Aside0.mk ((by rw [hg]; exact (below_size (by repeat (first | (with_reducible first | exact HB.out | apply below_alloc | apply pw_below_drewN | apply below_drew1 | refine below_set ?_ GE203.out) | exact HB.out))) : w.heap.size ≤ gb207)); replace HB := Aside0.mk (below_step (by repeat (first | (with_reducible first | exact HB.out | apply below_alloc | apply pw_below_drewN | apply below_drew1 | refine below_set ?_ GE203.out) | exact HB.out)) hb); have NB203_207 := Aside0.mk ((by rw [hg]; exact Nat.ne_of_lt (blk_lt (g := gb203) (o := .cells #[.slice none 0 0] 25 (0, 0)) (by (with_reducible repeat (first | refine blk_drewN ?_ _ | refine blk_drew ?_ | refine blk_alloc ?_ _)); exact BK203.out)) : gb203 ≠ gb207)); have NB207_203 := Aside0.mk ((by rw [hg]; exact Nat.ne_of_gt (blk_lt (g := gb203) (o := .cells #[.slice none 0 0] 25 (0, 0)) (by (with_reducible repeat (first | refine blk_drewN ?_ _ | refine blk_drew ?_ | refine blk_alloc ?_ _)); exact BK203.out)) : gb207 ≠ gb203)); replace BK203 := Aside0.mk (blk_below (g := gb203) (o := .cells #[.slice none 0 0] 25 (0, 0)) (by (with_reducible repeat (first | refine blk_drewN ?_ _ | refine blk_drew ?_ | refine blk_alloc ?_ _)); exact BK203.out) hb); clear hb hbox hg; obtain ⟨Ao6, co6, eo6⟩ := Kd.R_slice HO206.out; subst eo6; have hnb7 := NB207_203.out; have hnc7 := NB203_207.out; have hcz8_0 : w5.cell? ⟨gb207, 0, none⟩ = some (.slice none 0 0) := (blk_cell BK207.out 0).trans rfl; have hfz8_0 := blk_frozen BK207.out 0))
  (try simp only [Act.put, List.setIfInBounds_toArray, List.set_cons_zero, List.set_cons_succ])
  go_loopg [9] k (fun kq v9 w' => ∃ (x9_1 : Int) (x208000_1 : List Int) (u208000 : Value), v9 = .int .i64 x9_1 ∧ Aside0 (times_All.l0 kq l0 (l0.length : Int) x9_1 x208000_1 = some r) ∧ Aside0 (kq ≤ k) ∧ Aside0 (Kd.R (Kd.int .u32) 23 w' w.heap.size (fun _ => True) u208000 x208000_1) ∧ Aside0 (w'.heap[gb203]? = some (.cells #[(.slice none 0 0)] 25 (0, 0))) ∧ Aside0 (w'.heap[gb207]? = some (.cells #[u208000] 25 (0, 0))) ∧ Aside0 (Below w.heap.size w w'))
  case atStart => exact ⟨(0), (t204), (.slice Ao6 t204.length co6), rfl, H', ⟨Nat.le_refl _⟩, ⟨by (with_reducible repeat (first | apply Kd.R_alloc | apply Kd.R_drewN | apply Kd.R_drew)); exact Kd.R_mono (Kd.R_far (p := ⟨gb207, 0, none⟩) (Kd.R_types HO206.out BK207.out (by decide)) (fun _ hk => hk.2) (.slice Ao6 t204.length co6)) (fun _ hk => trivial)⟩, ⟨by (with_reducible repeat (first | refine blk_drewN ?_ _ | refine blk_drew ?_ | refine blk_alloc ?_ _)); refine blk_far ?_ NB203_207.out _; (with_reducible repeat (first | refine blk_drewN ?_ _ | refine blk_drew ?_ | refine blk_alloc ?_ _)); exact BK203.out⟩, ⟨by (with_reducible repeat (first | refine blk_drewN ?_ _ | refine blk_drew ?_ | refine blk_alloc ?_ _)); refine blk_put (cs := #[.slice none 0 0]) ?_ 0 _ rfl; (with_reducible repeat (first | refine blk_drewN ?_ _ | refine blk_drew ?_ | refine blk_alloc ?_ _)); exact BK207.out⟩, ⟨by repeat (first | (with_reducible first | exact HB.out | apply below_alloc | apply pw_below_drewN | apply below_drew1 | refine below_set ?_ GE203.out | refine below_set ?_ GE207.out) | exact HB.out)⟩⟩
  case round =>
    clear H'
    try clear c2
    try clear p2
    try clear c7
    try clear hcz8_0
    try clear hfz8_0
    obtain ⟨x9_1, x208000_1, u208000, rfl, HA, HK1, HO_208000, BK203, BK207, HB⟩ := hrel
    cases gk with
    | zero => exact absurd HA.out (by simp [times_All.l0])
    | succ k1 =>
      have H := HA.out
      clear HA
      simp only [times_All.l0] at H
      by_cases c9 : x9_1 < (l0.length : Int)
      rotate_left
      · rw [if_neg c9] at H
        have c9b0 : decide (x9_1 < (l0.length : Int)) = false := decide_eq_false c9
        clear c9
        obtain rfl := Option.some.inj H
        have hnb23 := NB207_203.out
        have hnc23 := NB203_207.out
        have hcz24_0 : wr.cell? ⟨gb207, 0, none⟩ = some (u208000) := (blk_cell BK207.out 0).trans rfl
        have hfz24_0 := blk_frozen BK207.out 0
        obtain ⟨Ao25, co25, eo25⟩ := Kd.R_slice HO_208000.out
        subst eo25
        have hcz26_0 : wr.cell? ⟨gb203, 0, none⟩ = some (.slice none 0 0) := (blk_cell BK203.out 0).trans rfl
        have hfz26_0 := blk_frozen BK203.out 0
        go_wp2
        refine bodyPost_ret (results_cell_row rfl _ _ gb203 25 #[.slice Ao25 x208000_1.length co25] (0, 0) _ rfl (by (with_reducible repeat (first | refine blk_drewN ?_ _ | refine blk_drew ?_ | refine blk_alloc ?_ _)); refine blk_put (cs := #[.slice none 0 0]) ?_ 0 _ rfl; (with_reducible repeat (first | refine blk_drewN ?_ _ | refine blk_drew ?_ | refine blk_alloc ?_ _)); exact BK203.out) Try.underlying25 rfl (by kernel_rfl)) rfl ?_
        exact ⟨_, rfl, by (with_reducible repeat (first | apply Kd.R_alloc | apply Kd.R_drewN | apply Kd.R_drew)); exact Kd.R_mono (Kd.R_far (p := ⟨gb203, 0, none⟩) (Kd.R_types HO_208000.out BK203.out (by decide)) (fun _ hk => hk.2) (.slice Ao25 x208000_1.length co25)) (fun _ hk => trivial), by repeat (first | (with_reducible first | exact HB.out | apply below_alloc | apply pw_below_drewN | apply below_drew1 | refine below_set ?_ GE203.out | refine below_set ?_ GE207.out) | exact HB.out)⟩

      rw [if_pos c9] at H
      have c9b0 : decide (x9_1 < (l0.length : Int)) = true := decide_eq_true c9
      clear c9
      by_cases c10 : 0 ≤ x9_1
      rotate_left
      · rw [if_neg c10] at H
        exact absurd H (by simp)
      rw [if_pos c10] at H
      have c10b0 : decide (0 ≤ x9_1) = true := decide_eq_true c10
      clear c10
      by_cases c11 : x9_1 < (l0.length : Int)
      rotate_left
      · rw [if_neg c11] at H
        exact absurd H (by simp)
      rw [if_pos c11] at H
      have c11b0 : decide (x9_1 < (l0.length : Int)) = true := decide_eq_true c11
      clear c11
      replace H := Option.bind_eq_some_iff.mp H
      obtain ⟨t210, A120, H⟩ := H
      have A12 := Aside0.mk A120
      clear A120
      have H' := Aside0.mk H
      clear H
      have p208 : 0 ≤ (x9_1 : Int) := of_decide_eq_true (by assumption)
      have q208 : x9_1 < (l0.length : Int) := of_decide_eq_true (by assumption)
      obtain ⟨ad208, A208_0, c208_0, e208, hx208_0, hl208_0, hi208_0⟩ := at_T25 HR0.out x9_1 p208 q208
      cases e208
      replace hx208_0 := (HB.out.cell (World.block_lt_of_cell? w _ hx208_0)).trans hx208_0
      have HR208_0 := Aside0.mk hi208_0
      have HC208_0 := Aside0.mk hl208_0
      clear hi208_0 hl208_0
      replace p208 := eq_true p208
      replace q208 := eq_true q208
      go_wp2_with (first | ((with_reducible refine gate_dst (N := 5) rfl ?_); refine box_event ?hg (N := 5) ?hd (cs := #[.slice none 0 0]) (t := 25) ?hr ?_; (case hd => rfl); (case hg => rfl); (case hr => first | (go_simp; done) | (go_simp; rfl)); intro gb209 hg w13 hbox hb; replace HO_208000 := Aside0.mk (Kd.R_below (by (with_reducible repeat (first | apply Kd.R_alloc | apply Kd.R_drewN | apply Kd.R_drew)); exact HO_208000.out) hb); have BK209 := Aside0.mk (hbox); have GW209 := Aside0.mk ((by rw [hg]; exact (below_size (by repeat (first | (with_reducible first | exact HB.out | apply below_alloc | apply pw_below_drewN | apply below_drew1 | refine below_set ?_ GE203.out | refine below_set ?_ GE207.out) | exact HB.out))) : w.heap.size ≤ gb209)); have GE209 := Aside0.mk ((by rw [hg]; exact (below_size (by repeat (first | (with_reducible first | exact HB.out | apply below_alloc | apply pw_below_drewN | apply below_drew1 | refine below_set ?_ GE203.out | refine below_set ?_ GE207.out) | exact HB.out))) : w.heap.size ≤ gb209)); replace HB := Aside0.mk (below_step (by repeat (first | (with_reducible first | exact HB.out | apply below_alloc | apply pw_below_drewN | apply below_drew1 | refine below_set ?_ GE203.out | refine below_set ?_ GE207.out) | exact HB.out)) hb); have NB203_209 := Aside0.mk ((by rw [hg]; exact Nat.ne_of_lt (blk_lt (g := gb203) (o := .cells #[.slice none 0 0] 25 (0, 0)) (by (with_reducible repeat (first | refine blk_drewN ?_ _ | refine blk_drew ?_ | refine blk_alloc ?_ _)); exact BK203.out)) : gb203 ≠ gb209)); have NB209_203 := Aside0.mk ((by rw [hg]; exact Nat.ne_of_gt (blk_lt (g := gb203) (o := .cells #[.slice none 0 0] 25 (0, 0)) (by (with_reducible repeat (first | refine blk_drewN ?_ _ | refine blk_drew ?_ | refine blk_alloc ?_ _)); exact BK203.out)) : gb209 ≠ gb203)); replace BK203 := Aside0.mk (blk_below (g := gb203) (o := .cells #[.slice none 0 0] 25 (0, 0)) (by (with_reducible repeat (first | refine blk_drewN ?_ _ | refine blk_drew ?_ | refine blk_alloc ?_ _)); exact BK203.out) hb); have NB207_209 := Aside0.mk ((by rw [hg]; exact Nat.ne_of_lt (blk_lt (g := gb207) (o := .cells #[u208000] 25 (0, 0)) (by (with_reducible repeat (first | refine blk_drewN ?_ _ | refine blk_drew ?_ | refine blk_alloc ?_ _)); exact BK207.out)) : gb207 ≠ gb209)); have NB209_207 := Aside0.mk ((by rw [hg]; exact Nat.ne_of_gt (blk_lt (g := gb207) (o := .cells #[u208000] 25 (0, 0)) (by (with_reducible repeat (first | refine blk_drewN ?_ _ | refine blk_drew ?_ | refine blk_alloc ?_ _)); exact BK207.out)) : gb209 ≠ gb207)); replace BK207 := Aside0.mk (blk_below (g := gb207) (o := .cells #[u208000] 25 (0, 0)) (by (with_reducible repeat (first | refine blk_drewN ?_ _ | refine blk_drew ?_ | refine blk_alloc ?_ _)); exact BK207.out) hb); clear hb hbox hg; have hnb14 := NB209_203.out; have hnc14 := NB203_209.out; have hnb15 := NB209_207.out; have hnc15 := NB207_209.out; have hcz16_0 : w13.cell? ⟨gb209, 0, none⟩ = some (.slice none 0 0) := (blk_cell BK209.out 0).trans rfl; have hfz16_0 := blk_frozen BK209.out 0; have hnb17 := NB207_203.out; have hnc17 := NB203_207.out; have hcz18_0 : w13.cell? ⟨gb207, 0, none⟩ = some (u208000) := (blk_cell BK207.out 0).trans rfl; have hfz18_0 := blk_frozen BK207.out 0; obtain ⟨Ao19, co19, eo19⟩ := Kd.R_slice HO_208000.out; subst eo19) | ((with_reducible refine gate_callee (f := 24) rfl ?_); refine goesL_ (some 15) rfl rfl Try.func24 (by kernel_rfl) rfl #[.agg #[.slice Ao19 x208000_1.length co19], .agg #[.slice A208_0 ((rd_T25 l0 x9_1).f0).length c208_0]] rfl (by (try simp only [List.map_toArray, List.map_cons, List.map_nil]); first | done | rfl | (simp only [List.length_drop, List.length_take]; rfl)) ?_; (with_reducible refine (times_Mul.calls k1 _ _ x208000_1 _ _ ((rd_T25 l0 x9_1).f0) t210 _ ?side1 ?side2 ?side3 ?side4 A12.out).mono ?_); (case side1 => exact (Kd.R_reads' (e := 23) (base := w.heap.size) (n := x208000_1.length) (c := co19) (by (with_reducible repeat (first | apply Kd.R_alloc | apply Kd.R_drewN | apply Kd.R_drew)); exact (Kd.R_mono (Kd.R_far (p := ⟨gb209, 0, none⟩) (Kd.R_types HO_208000.out BK209.out (by decide)) (fun _ hk => hk.2) (.slice A208_0 ((rd_T25 l0 x9_1).f0).length c208_0)) (fun _ h_ => h_.1)))).2.2); (case side2 => exact (Kd.R_reads' HO_208000.out).2.1); (case side3 => exact Kd.C_below HR208_0.out (by repeat (first | (with_reducible first | exact HB.out | apply below_alloc | apply pw_below_drewN | apply below_drew1 | refine below_set ?_ GE203.out | refine below_set ?_ GE207.out | refine below_set ?_ GE209.out) | exact HB.out))); (case side4 => exact HC208_0.out); rintro e w20 ⟨v211, rfl, ho0, hb⟩; refine ⟨_, rfl, ?_⟩; have HO212 := Aside0.mk (Kd.R_lower (Kd.R_new' ho0 (Kd.R_lt (by (with_reducible repeat (first | apply Kd.R_alloc | apply Kd.R_drewN | apply Kd.R_drew)); exact (Kd.R_mono (Kd.R_far (p := ⟨gb209, 0, none⟩) (Kd.R_types HO_208000.out BK209.out (by decide)) (fun _ hk => hk.2) (.slice A208_0 ((rd_T25 l0 x9_1).f0).length c208_0)) (fun _ h_ => h_.1))))) (below_size (by repeat (first | (with_reducible first | exact HB.out | apply below_alloc | apply pw_below_drewN | apply below_drew1 | refine below_set ?_ GE203.out | refine below_set ?_ GE207.out | refine below_set ?_ GE209.out) | exact HB.out)))); replace HO_208000 := Aside0.mk (Kd.R_elder' (by (with_reducible repeat (first | apply Kd.R_alloc | apply Kd.R_drewN | apply Kd.R_drew)); exact (Kd.R_mono (Kd.R_far (p := ⟨gb209, 0, none⟩) (Kd.R_types HO_208000.out BK209.out (by decide)) (fun _ hk => hk.2) (.slice A208_0 ((rd_T25 l0 x9_1).f0).length c208_0)) (fun _ h_ => h_.1))) (Kd.R_base ho0) hb); replace BK203 := Aside0.mk (blk_below (g := gb203) (o := .cells #[.slice none 0 0] 25 (0, 0)) (by (with_reducible repeat (first | refine blk_drewN ?_ _ | refine blk_drew ?_ | refine blk_alloc ?_ _)); refine blk_far ?_ NB203_209.out _; (with_reducible repeat (first | refine blk_drewN ?_ _ | refine blk_drew ?_ | refine blk_alloc ?_ _)); exact BK203.out) hb); replace BK207 := Aside0.mk (blk_below (g := gb207) (o := .cells #[.slice Ao19 x208000_1.length co19] 25 (0, 0)) (by (with_reducible repeat (first | refine blk_drewN ?_ _ | refine blk_drew ?_ | refine blk_alloc ?_ _)); refine blk_far ?_ NB207_209.out _; (with_reducible repeat (first | refine blk_drewN ?_ _ | refine blk_drew ?_ | refine blk_alloc ?_ _)); exact BK207.out) hb); replace BK209 := Aside0.mk (blk_below (g := gb209) (o := .cells #[.slice A208_0 ((rd_T25 l0 x9_1).f0).length c208_0] 25 (0, 0)) (by (with_reducible repeat (first | refine blk_drewN ?_ _ | refine blk_drew ?_ | refine blk_alloc ?_ _)); refine blk_put (cs := #[.slice none 0 0]) ?_ 0 _ rfl; (with_reducible repeat (first | refine blk_drewN ?_ _ | refine blk_drew ?_ | refine blk_alloc ?_ _)); exact BK209.out) hb); replace HB := Aside0.mk (below_step (by repeat (first | (with_reducible first | exact HB.out | apply below_alloc | apply pw_below_drewN | apply below_drew1 | refine below_set ?_ GE203.out | refine below_set ?_ GE207.out | refine below_set ?_ GE209.out) | exact HB.out)) hb); obtain ⟨Ao21, co21, eo21⟩ := Kd.R_slice HO212.out; subst eo21; have hcz22_0 : w20.cell? ⟨gb207, 0, none⟩ = some (.slice Ao19 x208000_1.length co19) := (blk_cell BK207.out 0).trans rfl; have hfz22_0 := blk_frozen BK207.out 0))
      go_roundg k1
      case measure => have := HK1.out; omega
      case rel => exact ⟨(wrap64 (x9_1 + 1)), (t210), (.slice Ao21 t210.length co21), rfl, H', ⟨by have := HK1.out; omega⟩, ⟨by (with_reducible repeat (first | apply Kd.R_alloc | apply Kd.R_drewN | apply Kd.R_drew)); exact Kd.R_mono (Kd.R_far (p := ⟨gb207, 0, none⟩) (Kd.R_types HO212.out BK207.out (by decide)) (fun _ hk => hk.2) (.slice Ao21 t210.length co21)) (fun _ hk => trivial)⟩, ⟨by (with_reducible repeat (first | refine blk_drewN ?_ _ | refine blk_drew ?_ | refine blk_alloc ?_ _)); refine blk_far ?_ NB203_207.out _; (with_reducible repeat (first | refine blk_drewN ?_ _ | refine blk_drew ?_ | refine blk_alloc ?_ _)); exact BK203.out⟩, ⟨by (with_reducible repeat (first | refine blk_drewN ?_ _ | refine blk_drew ?_ | refine blk_alloc ?_ _)); refine blk_put (cs := #[.slice Ao19 x208000_1.length co19]) ?_ 0 _ rfl; (with_reducible repeat (first | refine blk_drewN ?_ _ | refine blk_drew ?_ | refine blk_alloc ?_ _)); exact BK207.out⟩, ⟨by repeat (first | (with_reducible first | exact HB.out | apply below_alloc | apply pw_below_drewN | apply below_drew1 | refine below_set ?_ GE203.out | refine below_set ?_ GE207.out | refine below_set ?_ GE209.out) | exact HB.out)⟩⟩
end Go.Proofs.Ytcepdndhkidehaa.PA
end
section
namespace Go.Proofs.Ytcepdndhkidehaa.M
open Go.RowKit Go.Proofs.YtcepdndhkidehaaW.PrintWords Go.Proofs.YtcepdndhkidehaaW.PrintLast Go.Proofs.YtcepdndhkidehaaW.PrintMore Go.Proofs.Ytcepdndhkidehaa.PA
set_option linter.unusedVariables false
set_option linter.unusedSimpArgs false

/-! ### bit operations -/
theorem wrap_u64_nat {n : Nat} (h : n < 18446744073709551616) : IntKind.u64.wrap (n : Int) = (n : Int) := u64_id (by omega) (by omega)
/-! ### sums and differences of limbs -/
theorem add32_nat {a b c : Nat} (ha : a < 4294967296) (hb : b < 4294967296) (hc : c ≤ 1) : bits_Add32.f (a : Int) (b : Int) (c : Int) = some ((((a + b + c) % 4294967296 : Nat) : Int), (((a + b + c) / 4294967296 : Nat) : Int)) := by
  unfold bits_Add32.f
  rw [wrap_u64_nat (n := a) (by omega), wrap_u64_nat (n := b) (by omega), wrap_u64_nat (n := c) (by omega), show (a : Int) + (b : Int) = ((a + b : Nat) : Int) by omega, wrap_u64_nat (by omega), show ((a + b : Nat) : Int) + (c : Int) = ((a + b + c : Nat) : Int) by omega, wrap_u64_nat (by omega)]
  congr 2
  omega
/-! ### comparisons -/
theorem cmpint_eq (a b : Int) : cmp_Compare_int.f a b = some (if a < b then -1 else if b < a then 1 else 0) := by
  unfold cmp_Compare_int.f cmp_isNaN_int.f
  simp only [Option.bind_some, bne_self_eq_false, Bool.false_eq_true, if_false]
  by_cases h : a < b
  · rw [if_pos h, if_pos h]
  · rw [if_neg h, if_neg h]
    by_cases h2 : a > b
    · rw [if_pos h2, if_pos h2]
    · rw [if_neg h2, if_neg h2]
theorem cmpu32_eq (a b : Int) : cmp_Compare_uint32.f a b = some (if a < b then -1 else if b < a then 1 else 0) := by
  unfold cmp_Compare_uint32.f cmp_isNaN_uint32.f
  simp only [Option.bind_some, bne_self_eq_false, Bool.false_eq_true, if_false]
  by_cases h : a < b
  · rw [if_pos h, if_pos h]
  · rw [if_neg h, if_neg h]
    by_cases h2 : a > b
    · rw [if_pos h2, if_pos h2]
    · rw [if_neg h2, if_neg h2]
theorem ncmp_loop (m n : Nat) (hl : ln m = ln n) (hb : ln m ≤ 1099511627776) : ∀ i, i ≤ ln m → (dg 4294967296 m).drop i = (dg 4294967296 n).drop i → Ev (fun k => nat_Cmp.l0 k ((i : Int) - 1) (L m) (L n)) (cmpI m n) := by
  intro i
  induction i with
  | zero =>
    intro h1 h2
    rw [List.drop_zero, List.drop_zero] at h2
    have := dg_inj b32 h2
    subst this
    refine Ev.step (fun k => by rw [nat_Cmp.l0]) ?_
    exact ev_neg (by omega) (ev_now (by unfold cmpI; rw [if_neg (Nat.lt_irrefl _), if_neg (Nat.lt_irrefl _)]))
  | succ i ih =>
    intro h1 h2
    have e : (((i + 1 : Nat) : Int) - 1) = (i : Int) := by omega
    rw [e]
    refine Ev.step (fun k => by rw [nat_Cmp.l0]) ?_
    unfold ln at h1 hl hb
    refine ev_pos (by omega) (ev_pos (by omega) (ev_pos (by rw [L_length]; unfold ln; omega) (ev_pos (by rw [L_length]; unfold ln; omega) ?_)))
    unfold L
    refine ev_some (cmpu32_eq _ _) ?_
    rw [rd_nl, rd_nl]
    by_cases c1 : gd (dg 4294967296 m) i < gd (dg 4294967296 n) i
    · rw [if_pos (by omega)]
      refine ev_neg (by omega) (ev_now ?_)
      have := val_cmp (by decide) (Dg_dg b32 m) (Dg_dg b32 n) hl (by omega) h2 c1
      rw [val_dg b32, val_dg b32] at this
      unfold cmpI; rw [if_pos this]
    · rw [if_neg (by omega)]
      by_cases c2 : gd (dg 4294967296 n) i < gd (dg 4294967296 m) i
      · rw [if_pos (by omega)]
        refine ev_neg (by omega) (ev_now ?_)
        have := val_cmp (by decide) (Dg_dg b32 n) (Dg_dg b32 m) hl.symm (by omega) h2.symm c2
        rw [val_dg b32, val_dg b32] at this
        unfold cmpI; rw [if_neg (by omega), if_pos this]
      · rw [if_neg (by omega)]
        refine ev_pos rfl ?_
        have h3 := ih (by unfold ln; omega) (by rw [drop_cons _ i (by omega), drop_cons _ i (by omega), h2, show gd (dg 4294967296 m) i = gd (dg 4294967296 n) i by omega])
        rw [wrap_id (by omega) (by omega)]
        exact h3
theorem ncmp {m n : Nat} (hb : ln m ≤ 1099511627776) (hb2 : ln n ≤ 1099511627776) : Ev (fun k => nat_Cmp.f k (L m) (L n)) (cmpI m n) := by
  refine Ev.congr (fun k => by unfold nat_Cmp.f; rw [L_length, L_length]) ?_
  refine ev_some (cmpint_eq _ _) ?_
  by_cases c1 : ln m = ln n
  · rw [if_neg (by omega), if_neg (by omega)]
    refine ev_pos rfl ?_
    have := ncmp_loop m n c1 hb (ln m) (Nat.le_refl _) (by rw [List.drop_of_length_le (by unfold ln; omega), List.drop_of_length_le (by rw [c1]; unfold ln; omega)])
    rw [wrap_id (by omega) (by omega)]
    exact this
  · by_cases c2 : ln m < ln n
    · rw [if_pos (by omega)]
      exact ev_neg (by omega) (ev_now (by have := len_cmp b32 c2; unfold cmpI; rw [if_pos this]))
    · rw [if_neg (by omega), if_pos (by omega)]
      exact ev_neg (by omega) (ev_now (by have := len_cmp b32 (m := n) (n := m) (by unfold ln at *; omega); unfold cmpI; rw [if_neg (by omega), if_pos this]))

/-! ### sums -/
theorem nadd_loop (a b : List Nat) (ha : Dg 4294967296 a) (hb : Dg 4294967296 b) (w : Nat) (hw : w ≤ 1099511627776) (hla : a.length < w) (hlb : b.length < w) : ∀ (d i c : Nat) (out : List Nat), i + d = w → out.length = w → c ≤ 1 → (i = w → c = 0) → Dg 4294967296 out → val 4294967296 (out.take i) + 4294967296 ^ i * c = val 4294967296 (a.take i) + val 4294967296 (b.take i) →
    Ev (fun k => nat_Add.l0 k (nl out) (c : Int) (w : Int) (i : Int) (nl a) (nl b)) (L (val 4294967296 a + val 4294967296 b)) := by
  intro d
  induction d with
  | zero =>
    intro i c out hi ho hc hz hdo hv
    have hcz := hz (by omega)
    subst hcz
    refine Ev.step (fun k => by rw [nat_Add.l0]) ?_
    refine ev_neg (by omega) ?_
    rw [List.take_of_length_le (by omega), List.take_of_length_le (by omega), List.take_of_length_le (by omega), Nat.mul_zero, Nat.add_zero] at hv
    rw [← hv]
    exact (made_val (by omega) hdo).bind (Ev.now _)
  | succ d ih =>
    intro i c out hi ho hc hz hdo hv
    have hg := ha.gd (by decide) i
    have hg2 := hb.gd (by decide) i
    refine Ev.step (fun k => by rw [nat_Add.l0]) ?_
    refine ev_pos (by omega) (ev_some (nat_at_nl a i) (ev_some (nat_at_nl b i) (ev_some (add32_nat hg hg2 hc) (ev_pos (by omega) (ev_pos (by rw [nl_length]; omega) ?_)))))
    rw [Int.toNat_natCast, nl_set, succ_wrap (by omega)]
    refine ih (i + 1) ((gd a i + gd b i + c) / 4294967296) (out.set i ((gd a i + gd b i + c) % 4294967296)) (by omega) (by rw [List.length_set]; omega) (by omega) ?_ (hdo.set i (Nat.mod_lt _ (by decide))) ?_
    · intro h
      have hv2 := hv
      rw [gd_ge (l := a) (by omega), gd_ge (l := b) (by omega)]
      omega
    · rw [take_set_succ _ _ _ (by omega), val_snoc, List.length_take, Nat.min_eq_left (by omega), val_take_succ, val_take_succ]
      have := Nat.mod_add_div (gd a i + gd b i + c) 4294967296
      rw [Nat.pow_succ]
      grind
theorem nadd {m n : Nat} (hl : ln m ≤ 549755813888) (hl2 : ln n ≤ 549755813888) : Ev (fun k => nat_Add.f k (L m) (L n)) (L (m + n)) := by
  have hx : mx ((L m).length : Int) ((L n).length : Int) = ((max (ln m) (ln n) : Nat) : Int) := by rw [L_length, L_length]; unfold mx; split <;> omega
  refine Ev.congr (fun k => by unfold nat_Add.f; rw [hx, succ_wrap (by omega), Int.toNat_natCast]) ?_
  refine ev_pos (by omega) (ev_pos (by omega) (ev_some rfl ?_))
  have h := nadd_loop (dg 4294967296 m) (dg 4294967296 n) (Dg_dg b32 m) (Dg_dg b32 n) (max (ln m) (ln n) + 1) (by omega) (by unfold ln; omega) (by unfold ln; omega) (max (ln m) (ln n) + 1) 0 0 (List.replicate (max (ln m) (ln n) + 1) 0) (by omega) (by rw [List.length_replicate]) (by omega) (by omega) (Dg.replicate (by decide) _) (by simp [val])
  rw [val_dg b32, val_dg b32] at h
  rw [show List.replicate (max (ln m) (ln n) + 1) (0 : Int) = nl (List.replicate (max (ln m) (ln n) + 1) 0) from nl_replicate _ 0, nl_length, List.length_replicate]
  exact h

/-! ### differences -/
end Go.Proofs.Ytcepdndhkidehaa.M
end
section
namespace Go.Proofs.Ytcepdndhkidehaa.M
open Go.RowKit Go.Proofs.YtcepdndhkidehaaW.PrintWords Go.Proofs.YtcepdndhkidehaaW.PrintLast Go.Proofs.YtcepdndhkidehaaW.PrintMore Go.Proofs.Ytcepdndhkidehaa.PA
set_option linter.unusedVariables false
set_option linter.unusedSimpArgs false

/-! ### the document's difference -/
/-! ### how long decimals are -/
theorem dn_le_ln (n : Nat) : dn n ≤ 10 * ln n := by
  refine (dg_len b10 n _).mpr ?_
  have h := dg_lt b32 n
  have h2 : 4294967296 ^ ln n ≤ 10 ^ (10 * ln n) := by rw [Nat.pow_mul]; exact Nat.pow_le_pow_left (by decide) _
  exact Nat.lt_of_lt_of_le h h2

theorem len_mul {B : Nat} (hB : 2 ≤ B) (a b : Nat) : (dg B (a * b)).length ≤ (dg B a).length + (dg B b).length := by
  refine (dg_len hB _ _).mpr ?_
  rw [Nat.pow_add]
  exact Nat.mul_lt_mul'' (dg_lt hB a) (dg_lt hB b)
theorem len_add {B : Nat} (hB : 2 ≤ B) (a b : Nat) : (dg B (a + b)).length ≤ max (dg B a).length (dg B b).length + 1 := by
  refine (dg_len hB _ _).mpr ?_
  have h1 := Nat.lt_of_lt_of_le (dg_lt hB a) (Nat.pow_le_pow_right (n := B) (by omega) (Nat.le_max_left _ (dg B b).length))
  have h2 := Nat.lt_of_lt_of_le (dg_lt hB b) (Nat.pow_le_pow_right (n := B) (by omega) (Nat.le_max_right (dg B a).length _))
  rw [Nat.pow_succ]
  have := Nat.mul_le_mul_left (B ^ max (dg B a).length (dg B b).length) hB
  omega
theorem dn_mul (a b : Nat) : dn (a * b) ≤ dn a + dn b := len_mul b10 a b
theorem ln_add (a b : Nat) : ln (a + b) ≤ max (ln a) (ln b) + 1 := len_add b32 a b
theorem dn_small {n : Nat} (h : n < 18446744073709551616) : dn n ≤ 20 := (dg_len b10 n 20).mpr (by omega)
theorem ln_val {l : List Nat} (hd : Dg 4294967296 l) : ln (val 4294967296 l) ≤ l.length := (dg_len b32 _ _).mpr (val_lt (by decide) hd)
/-! ### numbers of limbs -/
theorem rmade_loop (l : List Nat) (hd : Dg 4294967296 l) (hl : l.length ≤ 1073741824) : ∀ i, i ≤ l.length → Ev (fun k => numeraryref02_Made.l0 k (nl l) (D (val 4294967296 (l.drop i))) ((i : Int) - 1)) (D (val 4294967296 l)) := by
  intro i
  induction i with
  | zero =>
    intro hi
    refine Ev.step (fun k => by rw [numeraryref02_Made.l0]) ?_
    exact ev_neg (by omega) (ev_now (by rw [List.drop_zero]))
  | succ i ih =>
    intro hi
    rw [show (((i + 1 : Nat) : Int) - 1) = (i : Int) by omega]
    refine Ev.step (fun k => by rw [numeraryref02_Made.l0]) ?_
    refine ev_pos (by omega) ?_
    have hv := val_lt (by decide) (hd.drop (i + 1))
    have hln : dn (val 4294967296 (l.drop (i + 1))) ≤ 10 * l.length := by
      refine Nat.le_trans (dn_le_ln _) (Nat.mul_le_mul_left _ ?_)
      refine (dg_len b32 _ _).mpr (Nat.lt_of_lt_of_le hv (Nat.pow_le_pow_right (by decide) ?_))
      rw [List.length_drop]; omega
    have hg := hd.gd (by decide) i
    refine Ev.bind (rtimes_D (by omega) (by decide)) (ev_pos (by omega) (ev_pos (by rw [nl_length]; omega) ?_))
    rw [rd_nl, wrap_u64_nat (by omega)]
    refine Ev.bind (rof_val (by omega)) ?_
    have hln2 : dn (val 4294967296 (l.drop (i + 1)) * 4294967296) ≤ 549755813888 := by
      have h1 := dn_mul (val 4294967296 (l.drop (i + 1))) 4294967296
      have h2 : dn 4294967296 ≤ 20 := dn_small (by decide)
      omega
    have hln3 : dn (gd l i) ≤ 549755813888 := by
      have := dn_small (n := gd l i) (by omega)
      omega
    refine Ev.bind (radd_D hln2 hln3) ?_
    have := ih (by omega)
    rw [val_drop _ _ _ (by omega), Nat.mul_comm, Nat.add_comm] at this
    rw [wrap_id (by omega) (by omega), Nat.mul_comm, Nat.mul_comm] at *
    rw [show val 4294967296 (List.drop (i + 1) l) * 4294967296 + gd l i = 4294967296 * val 4294967296 (List.drop (i + 1) l) + gd l i by rw [Nat.mul_comm]] at *
    exact this
theorem rmade_val {l : List Nat} (hd : Dg 4294967296 l) (hl : l.length ≤ 1073741824) : Ev (fun k => numeraryref02_Made.f k (nl l)) (D (val 4294967296 l)) := by
  have := rmade_loop l hd hl l.length (Nat.le_refl _)
  rw [List.drop_of_length_le (Nat.le_refl _)] at this
  refine Ev.congr (fun k => by unfold numeraryref02_Made.f; rw [nl_length, wrap_id (by omega) (by omega)]) ?_
  exact this
/-! ### the document's product -/
/-! ### the program's product -/
/-! ### powers -/
/-! ### bits -/
def bl (n : Nat) : Nat := if n = 0 then 0 else n.log2 + 1
theorem bl_le (n k : Nat) : bl n ≤ k ↔ n < 2 ^ k := by
  unfold bl
  by_cases h : n = 0
  · subst h; simp; exact Nat.pow_pos (by decide)
  · rw [if_neg h, ← Nat.log2_lt h]; omega
theorem bl_lt (n : Nat) : n < 2 ^ bl n := (bl_le n _).mp (Nat.le_refl _)
theorem bl_ge {n : Nat} (h : 0 < n) : 2 ^ (bl n - 1) ≤ n := by
  rcases Nat.lt_or_ge n (2 ^ (bl n - 1)) with h1 | h1
  · have := (bl_le n _).mpr h1
    have h2 : 0 < bl n := by unfold bl; rw [if_neg (by omega)]; omega
    omega
  · exact h1
theorem bl_eq {n k : Nat} (h1 : 2 ^ k ≤ n) (h2 : n < 2 ^ (k + 1)) : bl n = k + 1 := by
  have h3 := (bl_le n (k + 1)).mpr h2
  have h4 : ¬ bl n ≤ k := fun h => by have := (bl_le n k).mp h; omega
  omega
theorem bl_pos {n : Nat} (h : 0 < n) : 0 < bl n := by unfold bl; rw [if_neg (by omega)]; omega
theorem bl_mono {m n : Nat} (h : m ≤ n) : bl m ≤ bl n := (bl_le m _).mpr (Nat.lt_of_le_of_lt h (bl_lt n))
theorem bl_shift {t low k : Nat} (ht : 0 < t) (hl : low < 2 ^ k) : bl (low + 2 ^ k * t) = k + bl t := by
  have h1 := bl_ge ht
  have h2 := bl_lt t
  have h3 := bl_pos ht
  obtain ⟨b, hb⟩ : ∃ b, bl t = b + 1 := ⟨bl t - 1, by omega⟩
  rw [hb] at h1 h2 ⊢
  rw [Nat.add_sub_cancel] at h1
  refine bl_eq (k := k + b) ?_ ?_
  · rw [Nat.pow_add]
    have := Nat.mul_le_mul_left (2 ^ k) h1
    omega
  · rw [show k + b + 1 = k + (b + 1) by omega, Nat.pow_add]
    have := Nat.mul_le_mul_left (2 ^ k) (Nat.succ_le_of_lt h2)
    rw [Nat.succ_eq_add_one, Nat.mul_add] at this
    omega
def lenTab : ByteArray := (⟨#[0, 1, 2, 2, 3, 3, 3, 3, 4, 4, 4, 4, 4, 4, 4, 4, 5, 5, 5, 5, 5, 5, 5, 5, 5, 5, 5, 5, 5, 5, 5, 5, 6, 6, 6, 6, 6, 6, 6, 6, 6, 6, 6, 6, 6, 6, 6, 6, 6, 6, 6, 6, 6, 6, 6, 6, 6, 6, 6, 6, 6, 6, 6, 6, 7, 7, 7, 7, 7, 7, 7, 7, 7, 7, 7, 7, 7, 7, 7, 7, 7, 7, 7, 7, 7, 7, 7, 7, 7, 7, 7, 7, 7, 7, 7, 7, 7, 7, 7, 7, 7, 7, 7, 7, 7, 7, 7, 7, 7, 7, 7, 7, 7, 7, 7, 7, 7, 7, 7, 7, 7, 7, 7, 7, 7, 7, 7, 7, 8, 8, 8, 8, 8, 8, 8, 8, 8, 8, 8, 8, 8, 8, 8, 8, 8, 8, 8, 8, 8, 8, 8, 8, 8, 8, 8, 8, 8, 8, 8, 8, 8, 8, 8, 8, 8, 8, 8, 8, 8, 8, 8, 8, 8, 8, 8, 8, 8, 8, 8, 8, 8, 8, 8, 8, 8, 8, 8, 8, 8, 8, 8, 8, 8, 8, 8, 8, 8, 8, 8, 8, 8, 8, 8, 8, 8, 8, 8, 8, 8, 8, 8, 8, 8, 8, 8, 8, 8, 8, 8, 8, 8, 8, 8, 8, 8, 8, 8, 8, 8, 8, 8, 8, 8, 8, 8, 8, 8, 8, 8, 8, 8, 8, 8, 8, 8, 8, 8, 8, 8, 8, 8, 8, 8, 8, 8, 8]⟩ : ByteArray)
theorem len32_def (a : Int) : bits_Len32.f a = if a ≥ 65536 then (if (a / 65536) ≥ 256 then (if 0 ≤ (((a / 65536) / 256) % 256) then (if (((a / 65536) / 256) % 256) < 256 then (some (wrap64 ((16 + 8) + (wrap64 (bt lenTab (((a / 65536) / 256) % 256)))))) else (none)) else (none)) else (if 0 ≤ ((a / 65536) % 256) then (if ((a / 65536) % 256) < 256 then (some (wrap64 (16 + (wrap64 (bt lenTab ((a / 65536) % 256)))))) else (none)) else (none))) else (if a ≥ 256 then (if 0 ≤ ((a / 256) % 256) then (if ((a / 256) % 256) < 256 then (some (wrap64 ((0 + 8) + (wrap64 (bt lenTab ((a / 256) % 256)))))) else (none)) else (none)) else (if 0 ≤ ((a) % 256) then (if ((a) % 256) < 256 then (some (wrap64 (0 + (wrap64 (bt lenTab ((a) % 256)))))) else (none)) else (none))) := rfl
theorem lenTab_at (j : Nat) (h : j < 256) : bt lenTab (j : Int) = (bl j : Int) := by
  have : ∀ j : Fin 256, bt lenTab (j.val : Int) = (bl j.val : Int) := by decide +kernel
  exact this ⟨j, h⟩
theorem len32 {a : Nat} (ha : a < 4294967296) : bits_Len32.f (a : Int) = some ((bl a : Nat) : Int) := by
  have key : ∀ (s t : Nat), t < 256 → (s = 0 ∨ 0 < t) → s ≤ 24 → a / 2 ^ s = t → (bl a : Int) = (s : Int) + (bl t : Int) := by
    intro s t ht h hs hat
    have hm := Nat.mod_add_div a (2 ^ s)
    rw [hat] at hm
    rcases h with rfl | h
    · rw [Nat.pow_zero] at hat; rw [← hat, Nat.div_one]; omega
    · have := bl_shift h (Nat.mod_lt a (Nat.pow_pos (n := s) (by decide : 0 < 2)))
      rw [hm] at this
      omega
  rw [len32_def]
  by_cases h1 : 65536 ≤ a
  · rw [if_pos (by omega)]
    by_cases h2 : 16777216 ≤ a
    · have e : (a : Int) / 65536 / 256 % 256 = ((a / 16777216 : Nat) : Int) := by omega
      rw [if_pos (by omega), e, if_pos (by omega), if_pos (by omega), lenTab_at _ (by omega), key 24 (a / 16777216) (by omega) (.inr (by omega)) (by omega) rfl]
      have := (bl_le (a / 16777216) 8).mpr (by omega)
      rw [wrap_nat (by omega), wrap_id (by omega) (by omega)]; rfl
    · have e : (a : Int) / 65536 % 256 = ((a / 65536 : Nat) : Int) := by omega
      rw [if_neg (by omega), e, if_pos (by omega), if_pos (by omega), lenTab_at _ (by omega), key 16 (a / 65536) (by omega) (.inr (by omega)) (by omega) rfl]
      have := (bl_le (a / 65536) 8).mpr (by omega)
      rw [wrap_nat (by omega), wrap_id (by omega) (by omega)]; rfl
  · rw [if_neg (by omega)]
    by_cases h2 : 256 ≤ a
    · have e : (a : Int) / 256 % 256 = ((a / 256 : Nat) : Int) := by omega
      rw [if_pos (by omega), e, if_pos (by omega), if_pos (by omega), lenTab_at _ (by omega), key 8 (a / 256) (by omega) (.inr (by omega)) (by omega) rfl]
      have := (bl_le (a / 256) 8).mpr (by omega)
      rw [wrap_nat (by omega), wrap_id (by omega) (by omega)]; rfl
    · have e : (a : Int) % 256 = (a : Int) := by omega
      rw [if_neg (by omega), e, if_pos (by omega), if_pos (by omega), lenTab_at _ (by omega)]
      have := (bl_le a 8).mpr (by omega)
      rw [wrap_nat (by omega), wrap_id (by omega) (by omega), Int.zero_add]
theorem nbits {n : Nat} (hl : ln n ≤ 1099511627776) : nat_Nat_Bits.f (L n) = some ((bl n : Nat) : Int) := by
  unfold nat_Nat_Bits.f
  rw [L_length]
  rcases Nat.eq_zero_or_pos n with rfl | hn
  · rfl
  · have h0 : 0 < ln n := by unfold ln; rw [dg_pos b32 hn]; simp
    obtain ⟨m, hm⟩ : ∃ m, ln n = m + 1 := ⟨ln n - 1, by omega⟩
    have hdl : (dg 4294967296 n).length = m + 1 := hm
    rw [hm, if_neg (by omega), pred_wrap (by omega), if_pos (by omega), if_pos (by omega)]
    unfold L
    have hg := (Dg_dg b32 n).gd (by decide) m
    rw [rd_nl, len32 hg, Option.bind_some, show (32 : Int) * (m : Int) = ((32 * m : Nat) : Int) by omega, wrap_nat (by omega)]
    have h1 := dg_last b32 hn
    rw [hdl, Nat.add_sub_cancel] at h1
    have h2 := val_split 4294967296 (dg 4294967296 n) m (by omega)
    rw [val_drop _ _ _ (by omega), List.drop_of_length_le (by omega), val_dg b32] at h2
    have h3 := val_lt (by decide) ((Dg_dg b32 n).take m)
    rw [List.length_take, Nat.min_eq_left (by omega)] at h3
    have e : (4294967296 : Nat) ^ m = 2 ^ (32 * m) := by rw [Nat.pow_mul]
    rw [e] at h2 h3
    have h4 := bl_shift h1 h3
    rw [show val 4294967296 [] = 0 from rfl, Nat.mul_zero, Nat.add_zero] at h2
    rw [← h2] at h4
    have h5 := (bl_le (gd (dg 4294967296 n) m) 32).mpr hg
    rw [wrap_add (by omega), h4]

/-! ### small values -/
end Go.Proofs.Ytcepdndhkidehaa.M
end
section
namespace Go.Proofs.Ytcepdndhkidehaa.M
open Go.RowKit Go.Proofs.YtcepdndhkidehaaW.PrintWords Go.Proofs.YtcepdndhkidehaaW.PrintLast Go.Proofs.YtcepdndhkidehaaW.PrintMore Go.Proofs.Ytcepdndhkidehaa.PA
set_option linter.unusedVariables false
set_option linter.unusedSimpArgs false
theorem wf_u32 {x : Int} (h : (Lit.int .u32 x).wf = true) : 0 ≤ x ∧ x < 4294967296 := by
  simp [Lit.wf, IntKind.min, IntKind.max, IntKind.signed, IntKind.bits] at h
  omega
theorem limbs_in {l : List Int} (h : ∀ x ∈ l, (Lit.int .u32 x).wf = true) : ∃ t : List Nat, l = nl t ∧ Dg 4294967296 t := by
  refine ⟨l.map Int.toNat, toNl fun x hx => (wf_u32 (h x hx)).1, fun y hy => ?_⟩
  obtain ⟨x, hx, rfl⟩ := List.mem_map.mp hy
  have := wf_u32 (h x hx)
  omega
theorem few_of {l : List Nat} (n : Nat) {N : Int} (hN : N = (n : Int)) : (nl l).take ((mn ((nl l).length : Int) N) : Int).toNat = nl (l.take n) ∧ 0 ≤ mn ((nl l).length : Int) N ∧ mn ((nl l).length : Int) N ≤ ((nl l).length : Int) := by
  subst hN
  rw [nl_length]
  unfold mn
  refine ⟨?_, ?_, ?_⟩
  · split
    · rw [Int.toNat_natCast, nl_take]
    · rw [Int.toNat_natCast, nl_take, List.take_of_length_le (Nat.le_refl _), List.take_of_length_le (by omega)]
  · split <;> omega
  · split <;> omega
theorem cmpI_self (m : Nat) : cmpI m m = 0 := by unfold cmpI; rw [if_neg (Nat.lt_irrefl _), if_neg (Nat.lt_irrefl _)]
theorem cmpI_ge {m n : Nat} : 0 ≤ cmpI m n ↔ n ≤ m := by unfold cmpI; split <;> (try split) <;> omega
theorem cmpI_lt {m n : Nat} : cmpI m n < 0 ↔ m < n := by unfold cmpI; split <;> (try split) <;> omega
theorem cmpI_gt {m n : Nat} : 0 < cmpI m n ↔ n < m := by unfold cmpI; split <;> (try split) <;> omega
theorem cmpI_pos {m n : Nat} : cmpI m n = 1 ↔ n < m := by unfold cmpI; split <;> (try split) <;> omega
theorem num_in {l : List Int} (h : ∀ x ∈ l, (Lit.int .u32 x).wf = true) : ∃ s : List Nat, l = nl s ∧ ∀ n, n ≤ 1000 → ∃ a, ln a ≤ n ∧ Ev (fun k => nat_Made.f k (nl (s.take n))) (L a) ∧ Ev (fun k => numeraryref02_Made.f k (nl (s.take n))) (D a) := by
  obtain ⟨s, rfl, hs⟩ := limbs_in h
  refine ⟨s, rfl, fun n hn => ?_⟩
  have h1 : (s.take n).length ≤ n := List.length_take_le _ _
  have h2 := hs.take n
  exact ⟨val 4294967296 (s.take n), Nat.le_trans (ln_val h2) h1, made_val (by omega) h2, rmade_val h2 (by omega)⟩
end Go.Proofs.Ytcepdndhkidehaa.M
end
section
namespace Go.Proofs.Ytcepdndhkidehaa.PA
open Go.RowKit Go.Proofs.YtcepdndhkidehaaW.PrintWords Go.Proofs.YtcepdndhkidehaaW.PrintLast Go.Proofs.YtcepdndhkidehaaW.PrintMore
attribute [local go_sem] max2_int min2_int max_two min_two max_three min_three max_four min_four   -- for this text's walks alone
set_option linter.unusedVariables false
set_option linter.unusedSimpArgs false

/-! ### numerarylaw02_same: function 34 -/
def numerarylaw02_same.f (k : Nat) (l0 : List Int) (l1 : List Int) : Option (Bool) := (numeraryref02_Cmp.f k l0 l1).bind fun t418 => (some (t418 == 0))
theorem numerarylaw02_same.mono : ∀ a0 a1 k, LeO (numerarylaw02_same.f k a0 a1) (numerarylaw02_same.f (k + 1) a0 a1) := by
  intro a0 a1 k
  unfold numerarylaw02_same.f
  repeat' first
      | (with_reducible exact numeraryref02_Cmp.mono _ _ _)
      | (with_reducible exact LeO.refl _)
      | (with_reducible exact LeO.none _)
      | (with_reducible refine LeO.ite ?_ ?_)
      | (with_reducible refine LeO.bind ?_ (fun _ => ?_))
set_option maxHeartbeats 8000000 in
set_option maxRecDepth 100000 in
theorem numerarylaw02_same.calls (k : Nat) (A0 : Option Addr) (c0 : Nat) (l0 : List Int) (A1 : Option Addr) (c1 : Nat) (l1 : List Int) (r : Bool) (w : World) (hr0 : Kd.C (Kd.int .i64) w A0 l0.length l0) (hc0 : l0.length ≤ c0) (hr1 : Kd.C (Kd.int .i64) w A1 l1.length l1) (hc1 : l1.length ≤ c1) (h : numerarylaw02_same.f k l0 l1 = some r) :
    Calls Try.prog 34 #[.slice A0 l0.length c0, .slice A1 l1.length c1] w fun e w' => e = .returned (.bool r) ∧ Drawn0 w w' := by
  have HR0 := Aside0.mk hr0
  have HC0 := Aside0.mk hc0
  clear hr0 hc0
  have HR1 := Aside0.mk hr1
  have HC1 := Aside0.mk hc1
  clear hr1 hc1
  have H : ((numeraryref02_Cmp.f k l0 l1).bind fun t418 => (some (t418 == 0))) = some r := h
  clear h
  replace H := Option.bind_eq_some_iff.mp H
  obtain ⟨t418, A30, H⟩ := H
  have A3 := Aside0.mk A30
  clear A30
  obtain rfl := Option.some.inj H
  go_enter Try.func34, Try.ntmps34
  go_wp2_with (first | ((with_reducible refine gate_callee (f := 22) rfl ?_); refine goesL_ (some 7) rfl rfl Try.func22 (by kernel_rfl) rfl #[.slice A0 l0.length c0, .slice A1 l1.length c1] rfl (by (try simp only [List.map_toArray, List.map_cons, List.map_nil]); first | done | rfl | (simp only [List.length_drop, List.length_take]; rfl)) ?_; (with_reducible refine (numeraryref02_Cmp.calls k _ _ l0 _ _ l1 t418 _ ?side1 ?side2 ?side3 ?side4 A3.out).mono ?_); (case side1 => repeat (first | exact HR0.out | (with_reducible refine Kd.C_alloc ?_ _) | (with_reducible refine Kd.C_drewN ?_ _) | (with_reducible refine Kd.C_drew ?_))); (case side2 => exact HC0.out); (case side3 => repeat (first | exact HR1.out | (with_reducible refine Kd.C_alloc ?_ _) | (with_reducible refine Kd.C_drewN ?_ _) | (with_reducible refine Kd.C_drew ?_))); (case side4 => exact HC1.out); rintro e w' ⟨rfl, ⟨nd, rfl⟩⟩; refine ⟨_, rfl, ?_⟩))
  go_ret
  exact ⟨by first | rfl | (simp; done) | (simp [*]; done), by repeat (first | exact Drawn0.refl _ | apply Drawn0.step)⟩

end Go.Proofs.Ytcepdndhkidehaa.PA
end
section
namespace Go.Proofs.Ytcepdndhkidehaa.PA
open Go.RowKit Go.Proofs.YtcepdndhkidehaaW.PrintWords Go.Proofs.YtcepdndhkidehaaW.PrintLast Go.Proofs.YtcepdndhkidehaaW.PrintMore
attribute [local go_sem] max2_int min2_int max_two min_two max_three min_three max_four min_four   -- for this text's walks alone
set_option linter.unusedVariables false
set_option linter.unusedSimpArgs false

/-! ### numerarylaw02_of: function 35 -/
def numerarylaw02_of.f (k : Nat) (l0_0 : List Int) : Option (List Int) := (nat_Nat_Limbs.f l0_0).bind fun t420 => ((numeraryref02_Made.f k t420).bind fun t423 => (some t423))
theorem numerarylaw02_of.mono : ∀ a0 k, LeO (numerarylaw02_of.f k a0) (numerarylaw02_of.f (k + 1) a0) := by
  intro a0 k
  unfold numerarylaw02_of.f
  repeat' first
      | (with_reducible exact numeraryref02_Made.mono _ _)
      | (with_reducible exact LeO.refl _)
      | (with_reducible exact LeO.none _)
      | (with_reducible refine LeO.ite ?_ ?_)
      | (with_reducible refine LeO.bind ?_ (fun _ => ?_))
set_option maxHeartbeats 8000000 in
set_option maxRecDepth 100000 in
theorem numerarylaw02_of.calls (k : Nat) (A0_0 : Option Addr) (c0_0 : Nat) (l0_0 : List Int) (r : List Int) (w : World) (hr0_0 : Kd.C (Kd.int .u32) w A0_0 l0_0.length l0_0) (hc0_0 : l0_0.length ≤ c0_0) (h : numerarylaw02_of.f k l0_0 = some r) :
    Calls Try.prog 35 #[.agg #[.slice A0_0 l0_0.length c0_0]] w fun e w' => ∃ v0_ : Value, e = .returned (v0_) ∧ Kd.R (Kd.int .i64) 3 w' w.heap.size (fun _ => True) v0_ r ∧ Below w.heap.size w w' := by
  have hu25 := Try.underlying25
  have HR0_0 := Aside0.mk hr0_0
  have HC0_0 := Aside0.mk hc0_0
  clear hr0_0 hc0_0
  have HB := Aside0.mk (Below.refl w.heap.size w)
  have H : ((nat_Nat_Limbs.f l0_0).bind fun t420 => ((numeraryref02_Made.f k t420).bind fun t423 => (some t423))) = some r := h
  clear h
  replace H := Option.bind_eq_some_iff.mp H
  obtain ⟨t420, A20, H⟩ := H
  have A2 := Aside0.mk A20
  clear A20
  replace H := Option.bind_eq_some_iff.mp H
  obtain ⟨t423, A30, H⟩ := H
  have A3 := Aside0.mk A30
  clear A30
  obtain rfl := Option.some.inj H
  go_enter Try.func35, Try.ntmps35
  go_wp2_with (first | ((with_reducible refine gate_dst (N := 1) rfl ?_); refine box_event ?hg (N := 1) ?hd (cs := #[.slice A0_0 l0_0.length c0_0]) (t := 25) ?hr ?_; (case hd => rfl); (case hg => rfl); (case hr => first | (go_simp; done) | (go_simp; rfl)); intro gb419 hg w4 hbox hb; have BK419 := Aside0.mk (hbox); have GW419 := Aside0.mk ((by rw [hg]; exact (below_size (by repeat (first | (with_reducible first | exact HB.out | apply below_alloc | apply pw_below_drewN | apply below_drew1) | exact HB.out))) : w.heap.size ≤ gb419)); have GE419 := Aside0.mk ((by rw [hg]; exact (below_size (by repeat (first | (with_reducible first | exact HB.out | apply below_alloc | apply pw_below_drewN | apply below_drew1) | exact HB.out))) : w.heap.size ≤ gb419)); replace HB := Aside0.mk (below_step (by repeat (first | (with_reducible first | exact HB.out | apply below_alloc | apply pw_below_drewN | apply below_drew1) | exact HB.out)) hb); clear hb hbox hg; have hcz5_0 : w4.cell? ⟨gb419, 0, none⟩ = some (.slice A0_0 l0_0.length c0_0) := (blk_cell BK419.out 0).trans rfl; have hfz5_0 := blk_frozen BK419.out 0) | ((with_reducible refine gate_callee (f := 31) rfl ?_); refine goesL_ (some 4) rfl rfl Try.func31 (by kernel_rfl) rfl #[.agg #[.slice A0_0 l0_0.length c0_0]] rfl (by (try simp only [List.map_toArray, List.map_cons, List.map_nil]); first | done | rfl | (simp only [List.length_drop, List.length_take]; rfl)) ?_; (with_reducible refine (nat_Nat_Limbs.calls _ _ l0_0 t420 _ ?side1 ?side2 A2.out).mono ?_); (case side1 => repeat (first | exact (Kd.C_below HR0_0.out HB.out) | (with_reducible refine Kd.C_alloc ?_ _) | (with_reducible refine Kd.C_drewN ?_ _) | (with_reducible refine Kd.C_drew ?_))); (case side2 => exact HC0_0.out); rintro e w6 ⟨v421, rfl, ho0, hb⟩; refine ⟨_, rfl, ?_⟩; have HO422 := Aside0.mk (Kd.R_lower ho0 (below_size (by repeat (first | (with_reducible first | exact HB.out | apply below_alloc | apply pw_below_drewN | apply below_drew1 | refine below_set ?_ GE419.out) | exact HB.out)))); replace BK419 := Aside0.mk (blk_below (g := gb419) (o := .cells #[.slice A0_0 l0_0.length c0_0] 25 (0, 0)) (by (with_reducible repeat (first | refine blk_drewN ?_ _ | refine blk_drew ?_ | refine blk_alloc ?_ _)); exact BK419.out) hb); replace HB := Aside0.mk (below_step (by repeat (first | (with_reducible first | exact HB.out | apply below_alloc | apply pw_below_drewN | apply below_drew1 | refine below_set ?_ GE419.out) | exact HB.out)) hb); obtain ⟨Ao7, co7, eo7⟩ := Kd.R_slice HO422.out; subst eo7) | ((with_reducible refine gate_callee (f := 18) rfl ?_); refine goesL_ (some 5) rfl rfl Try.func18 (by kernel_rfl) rfl #[.slice Ao7 t420.length co7] rfl (by (try simp only [List.map_toArray, List.map_cons, List.map_nil]); first | done | rfl | (simp only [List.length_drop, List.length_take]; rfl)) ?_; (with_reducible refine (numeraryref02_Made.calls k _ _ t420 t423 _ ?side1 ?side2 A3.out).mono ?_); (case side1 => repeat (first | exact (Kd.R_reads' HO422.out).2.2 | (with_reducible refine Kd.C_alloc ?_ _) | (with_reducible refine Kd.C_drewN ?_ _) | (with_reducible refine Kd.C_drew ?_))); (case side2 => exact (Kd.R_reads' HO422.out).2.1); rintro e w8 ⟨v424, rfl, ho0, hb⟩; refine ⟨_, rfl, ?_⟩; replace HO422 := Aside0.mk (Kd.R_below (by (with_reducible repeat (first | apply Kd.R_alloc | apply Kd.R_drewN | apply Kd.R_drew)); exact HO422.out) hb); have HO425 := Aside0.mk (Kd.R_lower ho0 (below_size (by repeat (first | (with_reducible first | exact HB.out | apply below_alloc | apply pw_below_drewN | apply below_drew1 | refine below_set ?_ GE419.out) | exact HB.out)))); replace BK419 := Aside0.mk (blk_below (g := gb419) (o := .cells #[.slice A0_0 l0_0.length c0_0] 25 (0, 0)) (by (with_reducible repeat (first | refine blk_drewN ?_ _ | refine blk_drew ?_ | refine blk_alloc ?_ _)); exact BK419.out) hb); replace HB := Aside0.mk (below_step (by repeat (first | (with_reducible first | exact HB.out | apply below_alloc | apply pw_below_drewN | apply below_drew1 | refine below_set ?_ GE419.out) | exact HB.out)) hb)))
  go_ret
  exact ⟨_, rfl, by (with_reducible repeat (first | apply Kd.R_alloc | apply Kd.R_drewN | apply Kd.R_drew)); exact HO425.out, by repeat (first | (with_reducible first | exact HB.out | apply below_alloc | apply pw_below_drewN | apply below_drew1 | refine below_set ?_ GE419.out) | exact HB.out)⟩

end Go.Proofs.Ytcepdndhkidehaa.PA
end
section
namespace Go.Proofs.Ytcepdndhkidehaa.M
open Go.RowKit Go.Proofs.YtcepdndhkidehaaW.PrintWords Go.Proofs.YtcepdndhkidehaaW.PrintLast Go.Proofs.YtcepdndhkidehaaW.PrintMore Go.Proofs.Ytcepdndhkidehaa.PA
set_option linter.unusedVariables false
set_option linter.unusedSimpArgs false
theorem wakes02 : Ev (fun k => numerarylaw02_wakes.f k) true := Ev.of numerarylaw02_wakes.mono numerarylaw02_wakes.is_
theorem few02 (l : List Nat) : numerarylaw02_few.f (nl l) = some (nl (l.take 30)) := by
  obtain ⟨h1, h2, h3⟩ := few_of (l := l) 30 (N := 30) rfl
  unfold numerarylaw02_few.f
  rw [if_pos h2, if_pos h3]
  exact congrArg some h1
end Go.Proofs.Ytcepdndhkidehaa.M
end
section
namespace Go.Proofs.Ytcepdndhkidehaa.Pure
open Go.RowKit Go.Proofs.Ytcepdndhkidehaa.PA Go.Proofs.YtcepdndhkidehaaW.PrintWords Go.Proofs.YtcepdndhkidehaaW.PrintLast Go.Proofs.Ytcepdndhkidehaa.M
set_option linter.unusedVariables false
theorem no_ite {α : Type} {c : Prop} [Decidable c] {a b : Nat → Option α} {r : α} (ha : c → Ev a r) (hb : ¬ c → Ev b r) : Ev (fun k => if c then a k else b k) r := by
  by_cases h : c
  · exact ev_pos h (ha h)
  · exact ev_neg h (hb h)
theorem no_le {m n : Nat} : cmpI m n ≤ 0 ↔ m ≤ n := by
  constructor
  · intro h
    rcases Nat.lt_or_ge n m with h2 | h2
    · have := cmpI_gt.mpr h2; omega
    · exact h2
  · intro h
    rcases Int.lt_or_le 0 (cmpI m n) with h2 | h2
    · have := cmpI_gt.mp h2; omega
    · exact h2
theorem NatOrder : numerarylaw02_NatOrder.Pure := by
  intro l0 l1 l2 _ _ h0 _ _ h1 _ _ h2
  obtain ⟨s, rfl, hs⟩ := num_in h0
  obtain ⟨t, rfl, ht⟩ := num_in h1
  obtain ⟨u, rfl, hu⟩ := num_in h2
  obtain ⟨a, la, ma, _⟩ := hs 30 (by omega)
  obtain ⟨b, lb, mb, _⟩ := ht 30 (by omega)
  obtain ⟨c, lc, mc, _⟩ := hu 30 (by omega)
  have lac := ln_add a c
  have lbc := ln_add b c
  have same : cmpI (a + c) (b + c) = cmpI a b := by
    unfold cmpI
    by_cases h : a < b
    · rw [if_pos h, if_pos (by omega)]
    · rw [if_neg h, if_neg (by omega)]
      by_cases h2 : b < a
      · rw [if_pos h2, if_pos (by omega)]
      · rw [if_neg h2, if_neg (by omega)]
  have jj : Ev (fun k => numerarylaw02_NatOrder.j0 k (cmpI a b) false (L a) (L b) (L c)) true := by
    refine Ev.step (fun k => by rw [numerarylaw02_NatOrder.j0]) ?_
    refine ev_neg (by decide) (Ev.bind wakes02 (ev_pos rfl (Ev.bind (nadd (by omega) (by omega)) (Ev.bind (nadd (by omega) (by omega)) (Ev.bind (ncmp (by omega) (by omega)) (ev_pos same (Ev.bind (ncmp (by omega) (by omega)) (ev_now ?_))))))))
    rw [cmpI_self]; rfl
  have e2 := nbits (n := a) (by omega)
  have e3 := nbits (n := b) (by omega)
  have bp : Ev (fun k => (nat_Nat_Bits.f (L a)).bind fun t633 => ((nat_Nat_Bits.f (L b)).bind fun t634 => (if t633 > t634 then (numerarylaw02_NatOrder.j0 k (cmpI a b) (cmpI a b != 1) (L a) (L b) (L c)) else (numerarylaw02_NatOrder.j0 k (cmpI a b) false (L a) (L b) (L c))))) true := by
    refine ev_some e2 (ev_some e3 (no_ite (fun h => ?_) (fun _ => jj)))
    have hab : b < a := by
      rcases Nat.lt_or_ge b a with h2 | h2
      · exact h2
      · have := bl_mono h2; omega
    rw [show (cmpI a b != 1) = false by rw [cmpI_pos.mpr hab]; rfl]
    exact jj
  have f1 := @no_le a b
  have f2 := @cmpI_ge a b
  have f3 := @no_le b c
  have f4 := @cmpI_ge b c
  have f5 := @cmpI_gt a c
  have f6 := @cmpI_lt a c
  refine Ev.rounds ?_
  refine ev_some (few02 s) (Ev.bind ma (ev_some (few02 t) (Ev.bind mb (ev_some (few02 u) (Ev.bind mc (Ev.bind (ncmp (by omega) (by omega)) (Ev.bind (ncmp (by omega) (by omega)) (Ev.bind (ncmp (by omega) (by omega)) ?_))))))))
  repeat' first
    | exact bp
    | refine no_ite (fun _ => ?_) (fun _ => ?_)
    | (exfalso; omega)
end Go.Proofs.Ytcepdndhkidehaa.Pure
end
section
namespace Go.Proofs.Ytcepdndhkidehaa.natOrder
open Go.ChangeShapes Go.WideShapes Go.ChangeAt Go.RowKit
open Go.ChangeMaps (open_string shut_string)
set_option linter.unusedVariables false
theorem own : ownKnob Try.prog.godebug = none := by kernel_rfl
theorem laidOut : laidOutB Try.prog = true := by kernel_rfl
def IsRow (k : IntKind) (w : World) (a : Option Addr) (len cap : Nat) (zs : List Int) : Prop :=
  (a = none ∧ len = 0 ∧ cap = 0 ∧ zs = []) ∨
  ∃ x, a = some x ∧ len ≤ cap ∧ cap ≤ maxLen ∧ zs.length = cap ∧ (∀ i, i < zs.length → w.cell? (x.add i) = some (.int k (zs.getD i 0))) ∧ ∀ n ∈ zs, (Lit.int k n).wf = true
set_option maxRecDepth 100000 in
theorem lifted (os : Os) (started : os.Started) (H : Type) (enc : TypeId × Value → H) :
    ReturnsInHanded {} Try.checked os 9 .any (Rows.natOrderSpec.pre6 enc Try.prog Try.f9 Rows.natOrderRow.domain false) (Rows.natOrderSpec.post enc Try.prog Try.f9 false true false false) := by
  refine returnsInHanded_of_change_sized (C := Try.checked) own started (by kernel_rfl) Try.func9
    (ChangeSpec.witness6 (enc := enc) (C := Try.checked) false ⟨#[], #[.slice none 0 0, .slice none 0 0, .slice none 0 0], []⟩ 8 (by kernel_rfl) (by kernel_rfl) (by kernel_rfl) (by kernel_rfl)) ?_
  intro W base args ds gs before hval0 hW hcnd hsz0 _
  have hsz : (DataW.weightsEach Try.prog (Try.f9.params.toList ++ Rows.natOrderSpec.plain.varTypes Try.prog) (ds ++ gs)).all (· ≤ reachBytes) = true := hsz0
  have hval : ∀ (j : Nat) t v, Try.f9.params[j]? = some t → args[j]? = some v → Value.okWide Try.prog W .any base t v := hval0
  have hW' := hW
  obtain ⟨p, q, hA0, hV, rfl, hfz, hnd⟩ := hW
  have hA : DataW.TrodAll enc Try.prog W 0 (fun _ => true) true Try.f9.params.toList args.toList ds p := hA0
  rw [Try.params9] at hA hval hsz
  obtain ⟨v0, vs0, d0, ds0, p0, q0, hargs, rfl, rfl, h0, r0⟩ := trodAll_cons hA
  obtain ⟨v1, vs1, d1, ds1, p1, q1, rfl, rfl, rfl, h1, r1⟩ := trodAll_cons r0
  obtain ⟨v2, vs2, d2, ds2, p2, q2, rfl, rfl, rfl, h2, r2⟩ := trodAll_cons r1
  obtain ⟨rfl, rfl, rfl⟩ := trodAll_nil r2
  obtain rfl : args = #[v0, v1, v2] := by cases args; simp_all
  obtain ⟨rfl, rfl⟩ := trodVars_none hV
  obtain ⟨a0, len0, cap0, rfl⟩ := okWide_slice Try.underlying22 (hval 0 22 v0 rfl rfl)
  have k0 := h0
  have lt0 : ∀ x ∈ p0, x.block < W.heap.size := by obtain ⟨m, hm⟩ := k0; exact DataW.trod_lt m _ _ _ hm
  obtain ⟨z0, w0⟩ : ∃ zs, IsRow .u32 W a0 len0 cap0 zs := by
    obtain ⟨fuel, hf⟩ := h0
    rcases open_ints Try.underlying22 Try.underlying23 (by kernel_rfl) hf with ⟨hcs, _⟩ | ⟨x, l, c, zs, hcs, _, hl, hm, hz, _, hcell, hwz⟩
    · simp [Value.cells] at hcs
      obtain ⟨rfl, rfl, rfl⟩ := hcs
      exact ⟨[], .inl ⟨rfl, rfl, rfl, rfl⟩⟩
    · simp [Value.cells] at hcs
      obtain ⟨rfl, rfl, rfl⟩ := hcs
      exact ⟨zs, .inr ⟨_, rfl, hl, hm, by simpa using hz, hcell, hwz⟩⟩
  have y0 : len0 * 4 ≤ 140737488351232 := Go.Proofs.YtcepdndhkidehaaW.PrintWords.sized_ints hsz (j := 0) (t := 22) rfl rfl Try.underlying22 Try.underlying23 (by kernel_rfl) (by kernel_rfl) h0
  obtain ⟨a1, len1, cap1, rfl⟩ := okWide_slice Try.underlying22 (hval 1 22 v1 rfl rfl)
  have k1 := h1
  have lt1 : ∀ x ∈ p1, x.block < W.heap.size := by obtain ⟨m, hm⟩ := k1; exact DataW.trod_lt m _ _ _ hm
  obtain ⟨z1, w1⟩ : ∃ zs, IsRow .u32 W a1 len1 cap1 zs := by
    obtain ⟨fuel, hf⟩ := h1
    rcases open_ints Try.underlying22 Try.underlying23 (by kernel_rfl) hf with ⟨hcs, _⟩ | ⟨x, l, c, zs, hcs, _, hl, hm, hz, _, hcell, hwz⟩
    · simp [Value.cells] at hcs
      obtain ⟨rfl, rfl, rfl⟩ := hcs
      exact ⟨[], .inl ⟨rfl, rfl, rfl, rfl⟩⟩
    · simp [Value.cells] at hcs
      obtain ⟨rfl, rfl, rfl⟩ := hcs
      exact ⟨zs, .inr ⟨_, rfl, hl, hm, by simpa using hz, hcell, hwz⟩⟩
  have y1 : len1 * 4 ≤ 140737488351232 := Go.Proofs.YtcepdndhkidehaaW.PrintWords.sized_ints hsz (j := 1) (t := 22) rfl rfl Try.underlying22 Try.underlying23 (by kernel_rfl) (by kernel_rfl) h1
  obtain ⟨a2, len2, cap2, rfl⟩ := okWide_slice Try.underlying22 (hval 2 22 v2 rfl rfl)
  have k2 := h2
  have lt2 : ∀ x ∈ p2, x.block < W.heap.size := by obtain ⟨m, hm⟩ := k2; exact DataW.trod_lt m _ _ _ hm
  obtain ⟨z2, w2⟩ : ∃ zs, IsRow .u32 W a2 len2 cap2 zs := by
    obtain ⟨fuel, hf⟩ := h2
    rcases open_ints Try.underlying22 Try.underlying23 (by kernel_rfl) hf with ⟨hcs, _⟩ | ⟨x, l, c, zs, hcs, _, hl, hm, hz, _, hcell, hwz⟩
    · simp [Value.cells] at hcs
      obtain ⟨rfl, rfl, rfl⟩ := hcs
      exact ⟨[], .inl ⟨rfl, rfl, rfl, rfl⟩⟩
    · simp [Value.cells] at hcs
      obtain ⟨rfl, rfl, rfl⟩ := hcs
      exact ⟨zs, .inr ⟨_, rfl, hl, hm, by simpa using hz, hcell, hwz⟩⟩
  have y2 : len2 * 4 ≤ 140737488351232 := Go.Proofs.YtcepdndhkidehaaW.PrintWords.sized_ints hsz (j := 2) (t := 22) rfl rfl Try.underlying22 Try.underlying23 (by kernel_rfl) (by kernel_rfl) h2
  clear hA0 hval0 hsz0 hsz
  refine (PA.numerarylaw02_NatOrder.walk Pure.NatOrder a0 len0 cap0 z0 a1 len1 cap1 z1 a2 len2 cap2 z2 W w0 y0 w1 y1 w2 y2).mono fun e W' ⟨he, bel⟩ => ?_
  subst he
  exact ⟨_, rfl, _, _, _, [], _, [], hW', trodAll_mk1 (shut_bool Try.underlying4 _), (trodAll_cons_mk (Below.trod laidOut (by kernel_rfl) (of_decide_eq_true (by kernel_rfl)) k0 bel lt0) (trodAll_cons_mk (Below.trod laidOut (by kernel_rfl) (of_decide_eq_true (by kernel_rfl)) k1 bel lt1) (trodAll_cons_mk (Below.trod laidOut (by kernel_rfl) (of_decide_eq_true (by kernel_rfl)) k2 bel lt2) trodAll_mk0))), rfl, bel.frame _, fun h => by cases h⟩
theorem over : Rows.natOrderRow.holds Try.pinned (OpenSpec.ofChange Rows.natOrderSpec) :=
  OpenClaim.holds_of_wide 9 Try.f9 rfl rfl rfl rfl rfl rfl rfl ⟨rfl, rfl, rfl, rfl, rfl⟩ rfl rfl rfl rfl rfl (by kernel_rfl) Try.func9 (by kernel_rfl)
    (of_decide_eq_true (by kernel_rfl)) (by unfold Func.isWrapper; first | (rw [if_pos (by decide +kernel)]; kernel_rfl) | (rw [if_neg (by decide +kernel)]; exact ⟨rfl, rfl⟩))
    (fun os started H enc _ => lifted os started H enc)
theorem proved : Rows.NatOrderSaid := over
#print axioms proved
end Go.Proofs.Ytcepdndhkidehaa.natOrder
namespace Go.Proofs.Ytcepdndhkidehaa
/-- The row, under a short name, for the claim. -/
theorem natOrder_holds : Rows.NatOrderSaid := natOrder.proved
end Go.Proofs.Ytcepdndhkidehaa
end
