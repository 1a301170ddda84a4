/- Texts that the proof of QuotDivides stands on, part 1. -/
import Derived.Test.YtcepdndhkidehaaCQuotDivides0
section
namespace Go.Proofs.Ytcepdndhkidehaa.PA
open Go.RowKit Go.Proofs.YtcepdndhkidehaaW.PrintWords Go.Proofs.YtcepdndhkidehaaW.PrintLast Go.Proofs.YtcepdndhkidehaaW.PrintMore
attribute [local go_sem] max2_int min2_int max_two min_two max_three min_three max_four min_four   -- for this text's walks alone
set_option linter.unusedVariables false
set_option linter.unusedSimpArgs false

/-! ### a part of a row of the call's own: the whole row stands round it -/
theorem add_off (g o j : Nat) : (⟨g, o, none⟩ : Addr).add j = ⟨g, o + j, none⟩ := by unfold Addr.add; split <;> simp_all
def SubR (pre post : List Int) (cap : Nat) (w : World) (base : Nat) (ok : Nat → Prop) (v : Value) (xs : List Int) : Prop :=
  ∃ g c', v = .slice (some ⟨g, pre.length, none⟩) xs.length c' ∧ xs.length ≤ c' ∧ (Kd.int .u32).R 23 w base ok (.slice (some ⟨g, 0, none⟩) (pre ++ xs ++ post).length cap) (pre ++ xs ++ post)
namespace SubR
variable {pre post : List Int} {cap : Nat} {w : World} {base : Nat} {ok ok' : Nat → Prop} {v : Value} {xs : List Int}
theorem slice_ (h : SubR pre post cap w base ok v xs) : ∃ A c, v = .slice A xs.length c := by
  obtain ⟨g, c', e, _, _⟩ := h
  exact ⟨_, _, e⟩
theorem mono (h : SubR pre post cap w base ok v xs) (hok : ∀ k, ok k → ok' k) : SubR pre post cap w base ok' v xs := by
  obtain ⟨g, c', e, hc, hr⟩ := h
  exact ⟨g, c', e, hc, Kd.R_mono hr hok⟩
theorem alloc (h : SubR pre post cap w base ok v xs) (o : Obj) : SubR pre post cap (w.alloc o) base ok v xs := by
  obtain ⟨g, c', e, hc, hr⟩ := h
  exact ⟨g, c', e, hc, Kd.R_alloc hr o⟩
theorem drew (h : SubR pre post cap w base ok v xs) : SubR pre post cap w.drew base ok v xs := by
  obtain ⟨g, c', e, hc, hr⟩ := h
  exact ⟨g, c', e, hc, Kd.R_drew hr⟩
theorem drewN (h : SubR pre post cap w base ok v xs) (m : Nat) : SubR pre post cap (w.drewN m) base ok v xs := by
  obtain ⟨g, c', e, hc, hr⟩ := h
  exact ⟨g, c', e, hc, Kd.R_drewN hr m⟩
theorem ok_ (h : SubR pre post cap w base ok v xs) (k : Nat) (hk : v.ownBlock = some k) : ok k := by
  obtain ⟨g, c', rfl, hc, hr⟩ := h
  exact hr.1 k hk
theorem rd_in (pre xs post : List Int) (i : Int) (h0 : 0 ≤ i) (h1 : i < xs.length) : rd (pre ++ xs ++ post) ((pre.length + i.toNat : Nat) : Int) = rd xs i := by
  unfold rd
  have : i.toNat < xs.length := by omega
  rw [Int.toNat_natCast, List.getD_eq_getElem?_getD, List.getD_eq_getElem?_getD, List.append_assoc, List.getElem?_append_right (by omega), Nat.add_sub_cancel_left, List.getElem?_append_left this]
theorem celln {g n c : Nat} (h : SubR pre post cap w base ok (.slice (some ⟨g, pre.length, none⟩) n c) xs) (i : Int) (h0 : 0 ≤ i) (hi : i < n) : w.cell? ⟨g, pre.length + i.toNat, none⟩ = some (.int .u32 (rd xs i)) ∧ w.frozen? ⟨g, pre.length + i.toNat, none⟩ = false := by
  obtain ⟨g', c', e, hc, hr⟩ := h
  injection e with e1 e2 e3
  injection e1 with e1
  injection e1 with e1
  subst e1
  subst e2
  have := Kd.R_celln 0 hr ((pre.length + i.toNat : Nat) : Int) (Int.natCast_nonneg _) (by simp only [List.length_append]; omega)
  rw [Int.toNat_natCast] at this
  have hq := rd_in pre xs post i h0 hi
  exact ⟨by rw [← hq]; exact this.1, this.2⟩
theorem reads_ {A : Option Addr} {n c : Nat} (h : SubR pre post cap w base ok (.slice A n c) xs) : n = xs.length ∧ n ≤ c ∧ (Kd.int .u32).C w A xs.length xs := by
  have h' := h
  obtain ⟨g, c', e, hc, hr⟩ := h
  injection e with e1 e2 e3
  subst e1
  subst e2
  subst e3
  refine ⟨rfl, hc, rfl, ?_, fun _ => ⟨_, rfl, fun j p hj => ?_⟩⟩
  · have := (Kd.R_reads' hr).2.2.2.1
    simp only [List.length_append] at this
    omega
  · have hlt : j < xs.length := by
      rcases Nat.lt_or_ge j xs.length with h1 | h1
      · exact h1
      · rw [List.getElem?_eq_none h1] at hj; cases hj
    have hcl := (celln h' (j : Int) (Int.natCast_nonneg _) (by omega)).1
    rw [Int.toNat_natCast] at hcl
    have hrd : rd xs (j : Int) = p := by unfold rd; rw [Int.toNat_natCast, List.getD_eq_getElem?_getD, hj]; rfl
    rw [hrd] at hcl
    refine ⟨[.int .u32 p], rfl, rfl, fun i u hu => ?_⟩
    rcases i with _ | i
    · have : Value.int .u32 p = u := by simpa using hu
      rw [← this, add_off]
      show w.cell? ⟨g, pre.length + (j * 1 + 0), none⟩ = _
      simpa using hcl
    · simp at hu
theorem form (h : SubR pre post cap w base ok v xs) (hp : 0 < xs.length) : ∃ g c', v = .slice (some ⟨g, pre.length, none⟩) xs.length c' ∧ base ≤ g ∧ g < w.heap.size ∧ ∃ _n : Nat, True := by
  obtain ⟨g, c', e, hc, hr⟩ := h
  obtain ⟨g2, cap2, e2, hb, hl, _⟩ := Kd.R_form hr (by simp only [List.length_append]; omega)
  injection e2 with e1 _ _
  injection e1 with e1
  injection e1 with e1
  subst e1
  exact ⟨g, c', e, hb, hl, 0, trivial⟩
theorem putg {g n c : Nat} (h : SubR pre post cap w base ok (.slice (some ⟨g, pre.length, none⟩) n c) xs) (i : Int) (h0 : 0 ≤ i) (h1 : i < n) (x : Int) : SubR pre post cap (w.setCell ⟨g, pre.length + i.toNat, none⟩ (.int .u32 x)) base ok (.slice (some ⟨g, pre.length, none⟩) n c) (xs.set i.toNat x) ∧ w.grownBy (w.setCell ⟨g, pre.length + i.toNat, none⟩ (.int .u32 x)) (some g) := by
  have hi : i.toNat < n := by omega
  obtain ⟨g', c', e, hc, hr⟩ := h
  injection e with e1 e2 e3
  injection e1 with e1
  injection e1 with e1
  subst e1
  subst e2
  subst e3
  have := Kd.R_putg hr ((pre.length + i.toNat : Nat) : Int) x
  rw [Int.toNat_natCast] at this
  have hs : (pre ++ xs ++ post).set (pre.length + i.toNat) x = pre ++ xs.set i.toNat x ++ post := by
    rw [List.append_assoc, List.set_append_right _ _ (by omega), Nat.add_sub_cancel_left, List.set_append_left _ _ hi, List.append_assoc]
  rw [hs] at this
  refine ⟨⟨g, c, by rw [List.length_set], by rw [List.length_set]; exact hc, ?_⟩, this.2⟩
  have h1 := this.1
  rw [show (pre ++ xs.set i.toNat x ++ post).length = (pre ++ xs ++ post).length by simp only [List.length_append, List.length_set]]
  exact h1
end SubR
set_option maxHeartbeats 8000000 in
set_option maxRecDepth 100000 in
theorem quot_less.calls_at (k : Nat) (pre post : List Int) (cap : Nat) (P0_ : Nat → Prop) (u9000_ : Value) (l0 : List Int) (A1 : Option Addr) (c1 : Nat) (l1 : List Int) (a2 : Int) (r1 : Bool) (r2 : List Int) (w0 w : World) (hB : Below w0.heap.size w0 w) (ho0 : SubR pre post cap w w0.heap.size P0_ u9000_ l0) (hr1 : ∀ W_, Kept w W_ (fun k_ => P0_ k_) → Kd.C (Kd.int .u32) W_ A1 l1.length l1) (hc1 : l1.length ≤ c1) (h : quot_less.f k l0 l1 a2 = some (r1, r2)) :
    Calls Try.prog 65 #[u9000_, .slice A1 l1.length c1, .int .u64 a2] w fun e w' => e = .returned (.bool r1) ∧ SubR pre post cap w' w0.heap.size (fun k_ => (P0_ k_ ∨ w.heap.size ≤ k_)) u9000_ r2 ∧ Below w0.heap.size w0 w' ∧ Kept w w' (fun k_ => P0_ k_) := by
  have HO0 := Aside0.mk (show SubR pre post cap w w0.heap.size (fun k_ => (P0_ k_ ∨ w.heap.size ≤ k_)) u9000_ l0 from SubR.mono ho0 (fun k_ hk => (.inl hk)))
  have HR1 := Aside0.mk hr1
  have HC1 := Aside0.mk hc1
  clear hr1 hc1
  have HK := Aside0.mk (Kept.refl w (fun k_ => P0_ k_))
  have HW0 := Aside0.mk hB.size
  have HB := Aside0.mk hB
  clear hB
  have H : (quot_less.l0 k l0 l1 a2 0 0 l1 (l1.length : Int) 0) = some (r1, r2) := h
  clear h
  have H' := Aside0.mk H
  clear H
  go_enter Try.func65, Try.ntmps65
  go_wp2
  (try simp only [Act.put, List.setIfInBounds_toArray, List.set_cons_zero, List.set_cons_succ])
  go_loopg [7, 8, 13] k (fun kq v7 v8 v13 w' => ∃ (x0_1 : List Int) (x7_1 : Int) (x8_1 : Int) (x13_1 : Int), v7 = .int .u64 x7_1 ∧ v8 = .int .u32 x8_1 ∧ v13 = .int .i64 x13_1 ∧ Aside0 (quot_less.l0 kq x0_1 l1 a2 x7_1 x8_1 l1 (l1.length : Int) x13_1 = some (r1, r2)) ∧ Aside0 (kq ≤ k) ∧ Aside0 (SubR pre post cap w' w0.heap.size (fun k_ => (P0_ k_ ∨ w.heap.size ≤ k_)) u9000_ x0_1) ∧ Aside0 (Kept w w' (fun k_ => P0_ k_)) ∧ Aside0 (Below w0.heap.size w0 w'))
  case atStart => exact ⟨(l0), (0), (0), (0), (by first | rfl | (simp; done) | (simp [*]; done)), (by first | rfl | (simp; done) | (simp [*]; done)), (by first | rfl | (simp; done) | (simp [*]; done)), H', ⟨Nat.le_refl _⟩, ⟨by (with_reducible repeat (first | apply SubR.alloc | apply SubR.drewN | apply SubR.drew)); exact HO0.out⟩, ⟨by repeat (first | (with_reducible first | exact HK.out | apply Kept.alloc | apply Kept.drewN | apply Kept.drew) | exact HK.out)⟩, ⟨by repeat (first | (with_reducible first | exact HB.out | apply below_alloc | apply pw_below_drewN | apply below_drew1) | exact HB.out)⟩⟩
  case round =>
    clear H'
    try clear c1
    try clear p2
    obtain ⟨x0_1, x7_1, x8_1, x13_1, rfl, rfl, rfl, HA, HK1, HO_0, HK, HB⟩ := hrel
    cases gk with
    | zero => exact absurd HA.out (by simp [quot_less.l0])
    | succ k1 =>
      have H := HA.out
      clear HA
      simp only [quot_less.l0] at H
      by_cases c4 : x13_1 < (l1.length : Int)
      · rw [if_pos c4] at H
        have c4b0 : decide (x13_1 < (l1.length : Int)) = true := decide_eq_true c4
        clear c4
        by_cases c5 : 0 ≤ x13_1
        · rw [if_pos c5] at H
          have c5b0 : decide (0 ≤ x13_1) = true := decide_eq_true c5
          clear c5
          by_cases c6 : x13_1 < (l1.length : Int)
          · rw [if_pos c6] at H
            have c6b0 : decide (x13_1 < (l1.length : Int)) = true := decide_eq_true c6
            clear c6
            by_cases c7 : x13_1 < (x0_1.length : Int)
            · rw [if_pos c7] at H
              have c7b0 : decide (x13_1 < (x0_1.length : Int)) = true := decide_eq_true c7
              clear c7
              replace H := Option.bind_eq_some_iff.mp H
              obtain ⟨⟨t803, t804⟩, A80, H⟩ := H
              replace H : (quot_less.l0 k1 (x0_1.set (x13_1 : Int).toNat t803) l1 a2 ((IntKind.u64.wrap (x7_1 + (IntKind.u64.wrap (a2 * (IntKind.u64.wrap (rd l1 x13_1)))))) / 4294967296) t804 l1 (l1.length : Int) (wrap64 (x13_1 + 1))) = some (r1, r2) := H
              have A8 := Aside0.mk A80
              clear A80
              obtain ⟨y805, hy805⟩ : ∃ y_ : List Int, y_ = (x0_1.set (x13_1 : Int).toNat t803) := ⟨_, rfl⟩
              replace H : (quot_less.l0 k1 y805 l1 a2 ((IntKind.u64.wrap (x7_1 + (IntKind.u64.wrap (a2 * (IntKind.u64.wrap (rd l1 x13_1)))))) / 4294967296) t804 l1 (l1.length : Int) (wrap64 (x13_1 + 1))) = some (r1, r2) := by first | (rw [hy805]; with_reducible exact H) | (have H2_ := (Option.bind_some _ _).symm.trans H; rw [hy805]; with_reducible exact H2_) | (have H2_ := (Option.bind_some _ _).symm.trans H; with_reducible exact H2_) | with_reducible exact H | (rw [hy805]; exact H) | exact H
              have Ny805 := Aside0.mk hy805
              clear hy805
              have H' := Aside0.mk H
              clear H
              have p801 : 0 ≤ (x13_1 : Int) := of_decide_eq_true (by first | (with_reducible assumption) | assumption)
              have q801 : x13_1 < (l1.length : Int) := of_decide_eq_true (by first | (with_reducible assumption) | assumption)
              obtain ⟨ad801, e801, hx801_0⟩ := Kd.at_int (Kd.C_kept_now HR1.out HK.out) x13_1 p801 q801
              cases e801
              replace p801 := eq_true p801
              replace q801 := eq_true q801
              obtain ⟨Ao10, co10, eo10⟩ := SubR.slice_ HO_0.out
              subst eo10
              have p802 : 0 ≤ (x13_1 : Int) := of_decide_eq_true (by first | (with_reducible assumption) | assumption)
              have q802 : x13_1 < (x0_1.length : Int) := of_decide_eq_true (by first | (with_reducible assumption) | assumption)
              obtain ⟨ad802, e802, hx802_0⟩ := Kd.at_int (SubR.reads_ HO_0.out).2.2 x13_1 p802 q802
              cases e802
              replace p802 := eq_true p802
              replace q802 := eq_true q802
              go_wp2_with (first | ((with_reducible refine gate_callee (f := 52) rfl ?_); refine goesL_ (some 34) rfl rfl Try.func52 (by kernel_rfl) rfl #[.int .u32 (rd x0_1 x13_1), .int .u32 ((IntKind.u64.wrap (x7_1 + (IntKind.u64.wrap (a2 * (IntKind.u64.wrap (rd l1 x13_1)))))) % 4294967296), .int .u32 x8_1] rfl (by (try simp only [List.map_toArray, List.map_cons, List.map_nil]); first | done | rfl | (simp only [List.length_drop, List.length_take]; rfl)) ?_; (with_reducible refine (bits_Sub32.calls (rd x0_1 x13_1) ((IntKind.u64.wrap (x7_1 + (IntKind.u64.wrap (a2 * (IntKind.u64.wrap (rd l1 x13_1)))))) % 4294967296) x8_1 t803 t804 _ A8.out).mono ?_); rintro e w' ⟨rfl, ⟨nd, rfl⟩⟩; refine ⟨_, rfl, ?_⟩; (try (rw [drewN_self wr]; generalize hq_ : World.drewN wr _ = wr; have n0_ : Aside0 (SubR pre post cap wr w0.heap.size (fun k_ => (P0_ k_ ∨ w.heap.size ≤ k_)) (.slice (some ad802) x0_1.length co10) x0_1) := ⟨by rw [← hq_]; exact (by (with_reducible repeat (first | apply SubR.alloc | apply SubR.drewN | apply SubR.drew)); exact HO_0.out)⟩; have n1_ : Aside0 (Kept w wr (fun k_ => P0_ k_)) := ⟨by rw [← hq_]; exact (by repeat (first | (with_reducible first | exact HK.out | apply Kept.alloc | apply Kept.drewN | apply Kept.drew) | exact HK.out))⟩; have n2_ : Aside0 (Below w0.heap.size w0 wr) := ⟨by rw [← hq_]; exact (by repeat (first | (with_reducible first | exact HB.out | apply below_alloc | apply pw_below_drewN | apply below_drew1) | exact HB.out))⟩; clear HO_0 HK HB hq_; have HO_0 := n0_; have HK := n1_; have HB := n2_; clear n0_ n1_ n2_)); have p9 : 0 ≤ (x13_1 : Int) := of_decide_eq_true (by first | (with_reducible assumption) | assumption); have q9 : (x13_1 : Int) < ((x0_1.length : Int) : Int) := of_decide_eq_true (by first | (with_reducible assumption) | assumption); obtain ⟨go9, co9, eo9, gb9, gl9, cl9, HG9⟩ := SubR.form HO_0.out (by omega); (first | cases eo9 | (injection eo9 with ea_ en_ ec_; (first | subst ea_ | (injection ea_ with ea_; subst ea_)); subst ec_; clear en_)); have GB9 := Aside0.mk gb9; have GG9 := Aside0.mk HG9; clear gb9 gl9 HG9; have HMgo9 := Aside0.mk (show (P0_ go9 ∨ w.heap.size ≤ go9) from (SubR.ok_ HO_0.out _ rfl)); (first | simp only [add_off] at hx802_0 | skip); obtain ⟨hx9_0, hf9_0⟩ := SubR.celln HO_0.out (x13_1 : Int) p9 q9; replace p9 := eq_true p9; replace q9 := eq_true q9; obtain ⟨hy11_, hz11_⟩ := SubR.celln HO_0.out (x13_1 : Int) (of_decide_eq_true (by first | (with_reducible assumption) | assumption)) (of_decide_eq_true (by first | (with_reducible assumption) | assumption)); have HP11 := SubR.putg HO_0.out (x13_1 : Int) (of_decide_eq_true (by first | (with_reducible assumption) | assumption)) (of_decide_eq_true (by first | (with_reducible assumption) | assumption)) t803) | ((with_reducible refine gate_store (t := 23) (p := 37) rfl ?_); refine store_event (t := 23) (p := 37) (v := ?vo_w12) (w1 := (wr.setCell ⟨go9, pre.length + (x13_1 : Int).toNat, none⟩ (.int .u32 t803))) ?hg ?ho ?hn ?hr ?_; (case ho => rfl); (case hg => rfl); (case hn => rfl); (case hr => first | (go_simp; done) | (go_simp; rfl)); intro w12 hw; have hg : wr.grownBy w12 (some go9) := (by rw [hw]; exact HP11.2); have hp_ : SubR pre post cap w12 w0.heap.size (fun k_ => (P0_ k_ ∨ w.heap.size ≤ k_)) (.slice (some ⟨go9, pre.length, none⟩) x0_1.length co10) y805 := (by rw [hw, Ny805.out]; exact HP11.1); clear HP11; have n0_ := Aside0.mk (hp_); have n1_ := Aside0.mk ((by rw [hw]; exact below_set (HB.out) GB9.out : Below w0.heap.size w0 w12)); have n2_ := Aside0.mk (Kept.of_grown (S := (fun k_ => P0_ k_)) hg (by repeat (first | (with_reducible first | exact HK.out | apply Kept.alloc | apply Kept.drewN | apply Kept.drew) | exact HK.out)) (fun k_ e_ => (SubR.ok_ HO_0.out k_ e_))); clear HO_0; clear HB; clear HK; have HO_0 := n0_; have HB := n1_; have HK := n2_; clear n0_ n1_ n2_; clear hg hw hp_))
              go_roundg k1
              case measure => have := HK1.out; omega
              case rel => exact ⟨(y805), ((IntKind.u64.wrap (x7_1 + (IntKind.u64.wrap (a2 * (IntKind.u64.wrap (rd l1 x13_1)))))) / 4294967296), (t804), (wrap64 (x13_1 + 1)), (by first | rfl | (simp; done) | (simp [*]; done)), (by first | rfl | (simp; done) | (simp [*]; done)), (by first | rfl | (simp; done) | (simp [*]; done)), H', ⟨by have := HK1.out; omega⟩, ⟨by (with_reducible repeat (first | apply SubR.alloc | apply SubR.drewN | apply SubR.drew)); exact HO_0.out⟩, ⟨by repeat (first | (with_reducible first | exact HK.out | apply Kept.alloc | apply Kept.drewN | apply Kept.drew) | exact HK.out)⟩, ⟨by repeat (first | (with_reducible first | exact HB.out | apply below_alloc | apply pw_below_drewN | apply below_drew1) | exact HB.out)⟩⟩
            · rw [if_neg c7] at H
              exact absurd H (by simp)
          · rw [if_neg c6] at H
            exact absurd H (by simp)
        · rw [if_neg c5] at H
          exact absurd H (by simp)
      · rw [if_neg c4] at H
        have c4b0 : decide (x13_1 < (l1.length : Int)) = false := decide_eq_false c4
        clear c4
        by_cases c13 : 0 ≤ (l1.length : Int)
        · rw [if_pos c13] at H
          have c13b0 : decide (0 ≤ (l1.length : Int)) = true := decide_eq_true c13
          have c13b1 : decide (0 ≤ l1.length) = true := decide_eq_true (by omega)
          clear c13
          by_cases c14 : (l1.length : Int) < (x0_1.length : Int)
          · rw [if_pos c14] at H
            have c14b0 : decide ((l1.length : Int) < (x0_1.length : Int)) = true := decide_eq_true c14
            have c14b1 : decide (l1.length < x0_1.length) = true := decide_eq_true (Int.ofNat_lt.mp c14)
            clear c14
            replace H := Option.bind_eq_some_iff.mp H
            obtain ⟨⟨t807, t808⟩, A150, H⟩ := H
            replace H : (some ((t808 == 1), (x0_1.set ((l1.length : Int) : Int).toNat t807))) = some (r1, r2) := H
            have A15 := Aside0.mk A150
            clear A150
            obtain ⟨y809, hy809⟩ : ∃ y_ : List Int, y_ = (x0_1.set ((l1.length : Int) : Int).toNat t807) := ⟨_, rfl⟩
            replace H : (some ((t808 == 1), y809)) = some (r1, r2) := by first | (rw [hy809]; with_reducible exact H) | (have H2_ := (Option.bind_some _ _).symm.trans H; rw [hy809]; with_reducible exact H2_) | (have H2_ := (Option.bind_some _ _).symm.trans H; with_reducible exact H2_) | with_reducible exact H | (rw [hy809]; exact H) | exact H
            have Ny809 := Aside0.mk hy809
            clear hy809
            simp only [Option.some.injEq, Prod.mk.injEq] at H
            obtain ⟨rfl, rfl⟩ := H
            obtain ⟨Ao17, co17, eo17⟩ := SubR.slice_ HO_0.out
            subst eo17
            have p806 : 0 ≤ ((l1.length : Int) : Int) := of_decide_eq_true (by first | (with_reducible assumption) | assumption)
            have q806 : (l1.length : Int) < (x0_1.length : Int) := of_decide_eq_true (by first | (with_reducible assumption) | assumption)
            obtain ⟨ad806, e806, hx806_0⟩ := Kd.at_int (SubR.reads_ HO_0.out).2.2 (l1.length : Int) p806 q806
            cases e806
            (try simp only [Go.IntWalk.toNatUp] at hx806_0)
            replace p806 := eq_true p806
            replace q806 := eq_true q806
            go_wp2_with (first | ((with_reducible refine gate_callee (f := 52) rfl ?_); refine goesL_ (some 53) rfl rfl Try.func52 (by kernel_rfl) rfl #[.int .u32 (rd x0_1 (l1.length : Int)), .int .u32 ((x7_1) % 4294967296), .int .u32 x8_1] rfl (by (try simp only [List.map_toArray, List.map_cons, List.map_nil]); first | done | rfl | (simp only [List.length_drop, List.length_take]; rfl)) ?_; (with_reducible refine (bits_Sub32.calls (rd x0_1 (l1.length : Int)) ((x7_1) % 4294967296) x8_1 t807 t808 _ A15.out).mono ?_); rintro e w' ⟨rfl, ⟨nd, rfl⟩⟩; refine ⟨_, rfl, ?_⟩; (try (rw [drewN_self wr]; generalize hq_ : World.drewN wr _ = wr; have n0_ : Aside0 (SubR pre post cap wr w0.heap.size (fun k_ => (P0_ k_ ∨ w.heap.size ≤ k_)) (.slice (some ad806) x0_1.length co17) x0_1) := ⟨by rw [← hq_]; exact (by (with_reducible repeat (first | apply SubR.alloc | apply SubR.drewN | apply SubR.drew)); exact HO_0.out)⟩; have n1_ : Aside0 (Kept w wr (fun k_ => P0_ k_)) := ⟨by rw [← hq_]; exact (by repeat (first | (with_reducible first | exact HK.out | apply Kept.alloc | apply Kept.drewN | apply Kept.drew) | exact HK.out))⟩; have n2_ : Aside0 (Below w0.heap.size w0 wr) := ⟨by rw [← hq_]; exact (by repeat (first | (with_reducible first | exact HB.out | apply below_alloc | apply pw_below_drewN | apply below_drew1) | exact HB.out))⟩; clear HO_0 HK HB hq_; have HO_0 := n0_; have HK := n1_; have HB := n2_; clear n0_ n1_ n2_)); have p16 : 0 ≤ ((l1.length : Int) : Int) := of_decide_eq_true (by first | (with_reducible assumption) | assumption); have q16 : ((l1.length : Int) : Int) < ((x0_1.length : Int) : Int) := of_decide_eq_true (by first | (with_reducible assumption) | assumption); obtain ⟨go16, co16, eo16, gb16, gl16, cl16, HG16⟩ := SubR.form HO_0.out (by omega); (first | cases eo16 | (injection eo16 with ea_ en_ ec_; (first | subst ea_ | (injection ea_ with ea_; subst ea_)); subst ec_; clear en_)); have GB16 := Aside0.mk gb16; have GG16 := Aside0.mk HG16; clear gb16 gl16 HG16; have HMgo16 := Aside0.mk (show (P0_ go16 ∨ w.heap.size ≤ go16) from (SubR.ok_ HO_0.out _ rfl)); (first | simp only [add_off] at hx806_0 | skip); obtain ⟨hx16_0, hf16_0⟩ := SubR.celln HO_0.out ((l1.length : Int) : Int) p16 q16; replace p16 := eq_true p16; replace q16 := eq_true q16; obtain ⟨hy18_, hz18_⟩ := SubR.celln HO_0.out ((l1.length : Int) : Int) (of_decide_eq_true (by first | (with_reducible assumption) | assumption)) (of_decide_eq_true (by first | (with_reducible assumption) | assumption)); (try simp only [Go.IntWalk.toNatUp] at hy18_ hz18_); have HP18 := SubR.putg HO_0.out ((l1.length : Int) : Int) (of_decide_eq_true (by first | (with_reducible assumption) | assumption)) (of_decide_eq_true (by first | (with_reducible assumption) | assumption)) t807) | ((with_reducible refine gate_store (t := 23) (p := 56) rfl ?_); refine store_event (t := 23) (p := 56) (v := ?vo_w19) (w1 := (wr.setCell ⟨go16, pre.length + ((l1.length : Int) : Int).toNat, none⟩ (.int .u32 t807))) ?hg ?ho ?hn ?hr ?_; (case ho => rfl); (case hg => rfl); (case hn => rfl); (case hr => first | (go_simp; done) | (go_simp; rfl)); intro w19 hw; have hg : wr.grownBy w19 (some go16) := (by rw [hw]; exact HP18.2); have hp_ : SubR pre post cap w19 w0.heap.size (fun k_ => (P0_ k_ ∨ w.heap.size ≤ k_)) (.slice (some ⟨go16, pre.length, none⟩) x0_1.length co17) y809 := (by rw [hw, Ny809.out]; exact HP18.1); clear HP18; have n0_ := Aside0.mk (hp_); have n1_ := Aside0.mk ((by rw [hw]; exact below_set (HB.out) GB16.out : Below w0.heap.size w0 w19)); have n2_ := Aside0.mk (Kept.of_grown (S := (fun k_ => P0_ k_)) hg (by repeat (first | (with_reducible first | exact HK.out | apply Kept.alloc | apply Kept.drewN | apply Kept.drew) | exact HK.out)) (fun k_ e_ => (SubR.ok_ HO_0.out k_ e_))); clear HO_0; clear HB; clear HK; have HO_0 := n0_; have HB := n1_; have HK := n2_; clear n0_ n1_ n2_; clear hg hw hp_))
            go_ret
            exact ⟨by first | rfl | (simp [errW_none, errW_some] <;> rfl) | (simp [*, errW_none, errW_some] <;> rfl), by (with_reducible repeat (first | apply SubR.alloc | apply SubR.drewN | apply SubR.drew)); exact HO_0.out, by repeat (first | (with_reducible first | exact HB.out | apply below_alloc | apply pw_below_drewN | apply below_drew1) | exact HB.out), by repeat (first | (with_reducible first | exact HK.out | apply Kept.alloc | apply Kept.drewN | apply Kept.drew) | exact HK.out)⟩
          · rw [if_neg c14] at H
            exact absurd H (by simp)
        · rw [if_neg c13] at H
          exact absurd H (by simp)

set_option maxHeartbeats 8000000 in
set_option maxRecDepth 100000 in
theorem quot_more.calls_at (k : Nat) (pre post : List Int) (cap : Nat) (P0_ : Nat → Prop) (u9000_ : Value) (l0 : List Int) (A1 : Option Addr) (c1 : Nat) (l1 : List Int) (r : List Int) (w0 w : World) (hB : Below w0.heap.size w0 w) (ho0 : SubR pre post cap w w0.heap.size P0_ u9000_ l0) (hr1 : ∀ W_, Kept w W_ (fun k_ => P0_ k_) → Kd.C (Kd.int .u32) W_ A1 l1.length l1) (hc1 : l1.length ≤ c1) (h : quot_more.f k l0 l1 = some r) :
    Calls Try.prog 66 #[u9000_, .slice A1 l1.length c1] w fun e w' => e = .returned (.tuple #[]) ∧ SubR pre post cap w' w0.heap.size (fun k_ => (P0_ k_ ∨ w.heap.size ≤ k_)) u9000_ r ∧ Below w0.heap.size w0 w' ∧ Kept w w' (fun k_ => P0_ k_) := by
  have HO0 := Aside0.mk (show SubR pre post cap w w0.heap.size (fun k_ => (P0_ k_ ∨ w.heap.size ≤ k_)) u9000_ l0 from SubR.mono ho0 (fun k_ hk => (.inl hk)))
  have HR1 := Aside0.mk hr1
  have HC1 := Aside0.mk hc1
  clear hr1 hc1
  have HK := Aside0.mk (Kept.refl w (fun k_ => P0_ k_))
  have HW0 := Aside0.mk hB.size
  have HB := Aside0.mk hB
  clear hB
  have H : (quot_more.l0 k l0 l1 0 l1 (l1.length : Int) 0) = some r := h
  clear h
  have H' := Aside0.mk H
  clear H
  go_enter Try.func66, Try.ntmps66
  go_wp2
  (try simp only [Act.put, List.setIfInBounds_toArray, List.set_cons_zero, List.set_cons_succ])
  go_loopg [4, 9] k (fun kq v4 v9 w' => ∃ (x0_1 : List Int) (x4_1 : Int) (x9_1 : Int), v4 = .int .u32 x4_1 ∧ v9 = .int .i64 x9_1 ∧ Aside0 (quot_more.l0 kq x0_1 l1 x4_1 l1 (l1.length : Int) x9_1 = some r) ∧ Aside0 (kq ≤ k) ∧ Aside0 (SubR pre post cap w' w0.heap.size (fun k_ => (P0_ k_ ∨ w.heap.size ≤ k_)) u9000_ x0_1) ∧ Aside0 (Kept w w' (fun k_ => P0_ k_)) ∧ Aside0 (Below w0.heap.size w0 w'))
  case atStart => exact ⟨(l0), (0), (0), (by first | rfl | (simp; done) | (simp [*]; done)), (by first | rfl | (simp; done) | (simp [*]; done)), H', ⟨Nat.le_refl _⟩, ⟨by (with_reducible repeat (first | apply SubR.alloc | apply SubR.drewN | apply SubR.drew)); exact HO0.out⟩, ⟨by repeat (first | (with_reducible first | exact HK.out | apply Kept.alloc | apply Kept.drewN | apply Kept.drew) | exact HK.out)⟩, ⟨by repeat (first | (with_reducible first | exact HB.out | apply below_alloc | apply pw_below_drewN | apply below_drew1) | exact HB.out)⟩⟩
  case round =>
    clear H'
    try clear c1
    try clear p2
    obtain ⟨x0_1, x4_1, x9_1, rfl, rfl, HA, HK1, HO_0, HK, HB⟩ := hrel
    cases gk with
    | zero => exact absurd HA.out (by simp [quot_more.l0])
    | succ k1 =>
      have H := HA.out
      clear HA
      simp only [quot_more.l0] at H
      by_cases c3 : x9_1 < (l1.length : Int)
      · rw [if_pos c3] at H
        have c3b0 : decide (x9_1 < (l1.length : Int)) = true := decide_eq_true c3
        clear c3
        by_cases c4 : 0 ≤ x9_1
        · rw [if_pos c4] at H
          have c4b0 : decide (0 ≤ x9_1) = true := decide_eq_true c4
          clear c4
          by_cases c5 : x9_1 < (l1.length : Int)
          · rw [if_pos c5] at H
            have c5b0 : decide (x9_1 < (l1.length : Int)) = true := decide_eq_true c5
            clear c5
            by_cases c6 : x9_1 < (x0_1.length : Int)
            · rw [if_pos c6] at H
              have c6b0 : decide (x9_1 < (x0_1.length : Int)) = true := decide_eq_true c6
              clear c6
              replace H := Option.bind_eq_some_iff.mp H
              obtain ⟨⟨t812, t813⟩, A70, H⟩ := H
              replace H : (quot_more.l0 k1 (x0_1.set (x9_1 : Int).toNat t812) l1 t813 l1 (l1.length : Int) (wrap64 (x9_1 + 1))) = some r := H
              have A7 := Aside0.mk A70
              clear A70
              obtain ⟨y814, hy814⟩ : ∃ y_ : List Int, y_ = (x0_1.set (x9_1 : Int).toNat t812) := ⟨_, rfl⟩
              replace H : (quot_more.l0 k1 y814 l1 t813 l1 (l1.length : Int) (wrap64 (x9_1 + 1))) = some r := by first | (rw [hy814]; with_reducible exact H) | (have H2_ := (Option.bind_some _ _).symm.trans H; rw [hy814]; with_reducible exact H2_) | (have H2_ := (Option.bind_some _ _).symm.trans H; with_reducible exact H2_) | with_reducible exact H | (rw [hy814]; exact H) | exact H
              have Ny814 := Aside0.mk hy814
              clear hy814
              have H' := Aside0.mk H
              clear H
              have p810 : 0 ≤ (x9_1 : Int) := of_decide_eq_true (by first | (with_reducible assumption) | assumption)
              have q810 : x9_1 < (l1.length : Int) := of_decide_eq_true (by first | (with_reducible assumption) | assumption)
              obtain ⟨ad810, e810, hx810_0⟩ := Kd.at_int (Kd.C_kept_now HR1.out HK.out) x9_1 p810 q810
              cases e810
              replace p810 := eq_true p810
              replace q810 := eq_true q810
              obtain ⟨Ao9, co9, eo9⟩ := SubR.slice_ HO_0.out
              subst eo9
              have p811 : 0 ≤ (x9_1 : Int) := of_decide_eq_true (by first | (with_reducible assumption) | assumption)
              have q811 : x9_1 < (x0_1.length : Int) := of_decide_eq_true (by first | (with_reducible assumption) | assumption)
              obtain ⟨ad811, e811, hx811_0⟩ := Kd.at_int (SubR.reads_ HO_0.out).2.2 x9_1 p811 q811
              cases e811
              replace p811 := eq_true p811
              replace q811 := eq_true q811
              go_wp2_with (first | ((with_reducible refine gate_callee (f := 56) rfl ?_); refine goesL_ (some 23) rfl rfl Try.func56 (by kernel_rfl) rfl #[.int .u32 (rd x0_1 x9_1), .int .u32 (rd l1 x9_1), .int .u32 x4_1] rfl (by (try simp only [List.map_toArray, List.map_cons, List.map_nil]); first | done | rfl | (simp only [List.length_drop, List.length_take]; rfl)) ?_; (with_reducible refine (bits_Add32.calls (rd x0_1 x9_1) (rd l1 x9_1) x4_1 t812 t813 _ A7.out).mono ?_); rintro e w' ⟨rfl, ⟨nd, rfl⟩⟩; refine ⟨_, rfl, ?_⟩; (try (rw [drewN_self wr]; generalize hq_ : World.drewN wr _ = wr; have n0_ : Aside0 (SubR pre post cap wr w0.heap.size (fun k_ => (P0_ k_ ∨ w.heap.size ≤ k_)) (.slice (some ad811) x0_1.length co9) x0_1) := ⟨by rw [← hq_]; exact (by (with_reducible repeat (first | apply SubR.alloc | apply SubR.drewN | apply SubR.drew)); exact HO_0.out)⟩; have n1_ : Aside0 (Kept w wr (fun k_ => P0_ k_)) := ⟨by rw [← hq_]; exact (by repeat (first | (with_reducible first | exact HK.out | apply Kept.alloc | apply Kept.drewN | apply Kept.drew) | exact HK.out))⟩; have n2_ : Aside0 (Below w0.heap.size w0 wr) := ⟨by rw [← hq_]; exact (by repeat (first | (with_reducible first | exact HB.out | apply below_alloc | apply pw_below_drewN | apply below_drew1) | exact HB.out))⟩; clear HO_0 HK HB hq_; have HO_0 := n0_; have HK := n1_; have HB := n2_; clear n0_ n1_ n2_)); have p8 : 0 ≤ (x9_1 : Int) := of_decide_eq_true (by first | (with_reducible assumption) | assumption); have q8 : (x9_1 : Int) < ((x0_1.length : Int) : Int) := of_decide_eq_true (by first | (with_reducible assumption) | assumption); obtain ⟨go8, co8, eo8, gb8, gl8, cl8, HG8⟩ := SubR.form HO_0.out (by omega); (first | cases eo8 | (injection eo8 with ea_ en_ ec_; (first | subst ea_ | (injection ea_ with ea_; subst ea_)); subst ec_; clear en_)); have GB8 := Aside0.mk gb8; have GG8 := Aside0.mk HG8; clear gb8 gl8 HG8; have HMgo8 := Aside0.mk (show (P0_ go8 ∨ w.heap.size ≤ go8) from (SubR.ok_ HO_0.out _ rfl)); (first | simp only [add_off] at hx811_0 | skip); obtain ⟨hx8_0, hf8_0⟩ := SubR.celln HO_0.out (x9_1 : Int) p8 q8; replace p8 := eq_true p8; replace q8 := eq_true q8; obtain ⟨hy10_, hz10_⟩ := SubR.celln HO_0.out (x9_1 : Int) (of_decide_eq_true (by first | (with_reducible assumption) | assumption)) (of_decide_eq_true (by first | (with_reducible assumption) | assumption)); have HP10 := SubR.putg HO_0.out (x9_1 : Int) (of_decide_eq_true (by first | (with_reducible assumption) | assumption)) (of_decide_eq_true (by first | (with_reducible assumption) | assumption)) t812) | ((with_reducible refine gate_store (t := 23) (p := 26) rfl ?_); refine store_event (t := 23) (p := 26) (v := ?vo_w11) (w1 := (wr.setCell ⟨go8, pre.length + (x9_1 : Int).toNat, none⟩ (.int .u32 t812))) ?hg ?ho ?hn ?hr ?_; (case ho => rfl); (case hg => rfl); (case hn => rfl); (case hr => first | (go_simp; done) | (go_simp; rfl)); intro w11 hw; have hg : wr.grownBy w11 (some go8) := (by rw [hw]; exact HP10.2); have hp_ : SubR pre post cap w11 w0.heap.size (fun k_ => (P0_ k_ ∨ w.heap.size ≤ k_)) (.slice (some ⟨go8, pre.length, none⟩) x0_1.length co9) y814 := (by rw [hw, Ny814.out]; exact HP10.1); clear HP10; have n0_ := Aside0.mk (hp_); have n1_ := Aside0.mk ((by rw [hw]; exact below_set (HB.out) GB8.out : Below w0.heap.size w0 w11)); have n2_ := Aside0.mk (Kept.of_grown (S := (fun k_ => P0_ k_)) hg (by repeat (first | (with_reducible first | exact HK.out | apply Kept.alloc | apply Kept.drewN | apply Kept.drew) | exact HK.out)) (fun k_ e_ => (SubR.ok_ HO_0.out k_ e_))); clear HO_0; clear HB; clear HK; have HO_0 := n0_; have HB := n1_; have HK := n2_; clear n0_ n1_ n2_; clear hg hw hp_))
              go_roundg k1
              case measure => have := HK1.out; omega
              case rel => exact ⟨(y814), (t813), (wrap64 (x9_1 + 1)), (by first | rfl | (simp; done) | (simp [*]; done)), (by first | rfl | (simp; done) | (simp [*]; done)), H', ⟨by have := HK1.out; omega⟩, ⟨by (with_reducible repeat (first | apply SubR.alloc | apply SubR.drewN | apply SubR.drew)); exact HO_0.out⟩, ⟨by repeat (first | (with_reducible first | exact HK.out | apply Kept.alloc | apply Kept.drewN | apply Kept.drew) | exact HK.out)⟩, ⟨by repeat (first | (with_reducible first | exact HB.out | apply below_alloc | apply pw_below_drewN | apply below_drew1) | exact HB.out)⟩⟩
            · rw [if_neg c6] at H
              exact absurd H (by simp)
          · rw [if_neg c5] at H
            exact absurd H (by simp)
        · rw [if_neg c4] at H
          exact absurd H (by simp)
      · rw [if_neg c3] at H
        have c3b0 : decide (x9_1 < (l1.length : Int)) = false := decide_eq_false c3
        clear c3
        by_cases c12 : 0 ≤ (l1.length : Int)
        · rw [if_pos c12] at H
          have c12b0 : decide (0 ≤ (l1.length : Int)) = true := decide_eq_true c12
          have c12b1 : decide (0 ≤ l1.length) = true := decide_eq_true (by omega)
          clear c12
          by_cases c13 : (l1.length : Int) < (x0_1.length : Int)
          · rw [if_pos c13] at H
            have c13b0 : decide ((l1.length : Int) < (x0_1.length : Int)) = true := decide_eq_true c13
            have c13b1 : decide (l1.length < x0_1.length) = true := decide_eq_true (Int.ofNat_lt.mp c13)
            clear c13
            obtain ⟨y816, hy816⟩ : ∃ y_ : List Int, y_ = (x0_1.set ((l1.length : Int) : Int).toNat (((rd x0_1 (l1.length : Int)) + x4_1) % 4294967296)) := ⟨_, rfl⟩
            replace H : (some y816) = some r := by first | (rw [hy816]; with_reducible exact H) | (have H2_ := (Option.bind_some _ _).symm.trans H; rw [hy816]; with_reducible exact H2_) | (have H2_ := (Option.bind_some _ _).symm.trans H; with_reducible exact H2_) | with_reducible exact H | (rw [hy816]; exact H) | exact H
            have Ny816 := Aside0.mk hy816
            clear hy816
            obtain rfl := Option.some.inj H
            obtain ⟨Ao15, co15, eo15⟩ := SubR.slice_ HO_0.out
            subst eo15
            have p815 : 0 ≤ ((l1.length : Int) : Int) := of_decide_eq_true (by first | (with_reducible assumption) | assumption)
            have q815 : (l1.length : Int) < (x0_1.length : Int) := of_decide_eq_true (by first | (with_reducible assumption) | assumption)
            obtain ⟨ad815, e815, hx815_0⟩ := Kd.at_int (SubR.reads_ HO_0.out).2.2 (l1.length : Int) p815 q815
            cases e815
            (try simp only [Go.IntWalk.toNatUp] at hx815_0)
            replace p815 := eq_true p815
            replace q815 := eq_true q815
            have p14 : 0 ≤ ((l1.length : Int) : Int) := of_decide_eq_true (by first | (with_reducible assumption) | assumption)
            have q14 : ((l1.length : Int) : Int) < ((x0_1.length : Int) : Int) := of_decide_eq_true (by first | (with_reducible assumption) | assumption)
            obtain ⟨go14, co14, eo14, gb14, gl14, cl14, HG14⟩ := SubR.form HO_0.out (by omega)
            (first | cases eo14 | (injection eo14 with ea_ en_ ec_; (first | subst ea_ | (injection ea_ with ea_; subst ea_)); subst ec_; clear en_))
            have GB14 := Aside0.mk gb14
            have GG14 := Aside0.mk HG14
            clear gb14 gl14 HG14
            have HMgo14 := Aside0.mk (show (P0_ go14 ∨ w.heap.size ≤ go14) from (SubR.ok_ HO_0.out _ rfl))
            (first | simp only [add_off] at hx815_0 | skip)
            obtain ⟨hx14_0, hf14_0⟩ := SubR.celln HO_0.out ((l1.length : Int) : Int) p14 q14
            (try simp only [Go.IntWalk.toNatUp] at hx14_0 hf14_0)
            replace p14 := eq_true p14
            replace q14 := eq_true q14
            have HP16 := SubR.putg HO_0.out ((l1.length : Int) : Int) (of_decide_eq_true (by first | (with_reducible assumption) | assumption)) (of_decide_eq_true (by first | (with_reducible assumption) | assumption)) (((rd x0_1 (l1.length : Int)) + x4_1) % 4294967296)
            go_wp2_with (first | ((with_reducible refine gate_store (t := 23) (p := 35) rfl ?_); refine store_event (t := 23) (p := 35) (v := ?vo_w17) (w1 := (wr.setCell ⟨go14, pre.length + ((l1.length : Int) : Int).toNat, none⟩ (.int .u32 (((rd x0_1 (l1.length : Int)) + x4_1) % 4294967296)))) ?hg ?ho ?hn ?hr ?_; (case ho => rfl); (case hg => rfl); (case hn => rfl); (case hr => first | (go_simp; done) | (go_simp; rfl)); intro w17 hw; have hg : wr.grownBy w17 (some go14) := (by rw [hw]; exact HP16.2); have hp_ : SubR pre post cap w17 w0.heap.size (fun k_ => (P0_ k_ ∨ w.heap.size ≤ k_)) (.slice (some ⟨go14, pre.length, none⟩) x0_1.length co15) y816 := (by rw [hw, Ny816.out]; exact HP16.1); clear HP16; have n0_ := Aside0.mk (hp_); have n1_ := Aside0.mk ((by rw [hw]; exact below_set (HB.out) GB14.out : Below w0.heap.size w0 w17)); have n2_ := Aside0.mk (Kept.of_grown (S := (fun k_ => P0_ k_)) hg (by repeat (first | (with_reducible first | exact HK.out | apply Kept.alloc | apply Kept.drewN | apply Kept.drew) | exact HK.out)) (fun k_ e_ => (SubR.ok_ HO_0.out k_ e_))); clear HO_0; clear HB; clear HK; have HO_0 := n0_; have HB := n1_; have HK := n2_; clear n0_ n1_ n2_; clear hg hw hp_))
            first | go_end0 | ((try simp only [Exit.inBlock, Exit.then]); refine bodyPost_ret (results_none rfl _ _ _) rfl ?_)
            exact ⟨by first | rfl | (simp [errW_none, errW_some] <;> rfl) | (simp [*, errW_none, errW_some] <;> rfl), by (with_reducible repeat (first | apply SubR.alloc | apply SubR.drewN | apply SubR.drew)); exact HO_0.out, by repeat (first | (with_reducible first | exact HB.out | apply below_alloc | apply pw_below_drewN | apply below_drew1) | exact HB.out), by repeat (first | (with_reducible first | exact HK.out | apply Kept.alloc | apply Kept.drewN | apply Kept.drew) | exact HK.out)⟩
          · rw [if_neg c13] at H
            exact absurd H (by simp)
        · rw [if_neg c12] at H
          exact absurd H (by simp)

/-! ### a part of a row is written: what a call does with the whole row -/
theorem SubR.mk_ {base ok} {g co : Nat} {w : World} {l0 y : List Int} {j E : Nat} {A32 : Option Addr} {c32 : Nat} (hr : (Kd.int .u32).R 23 w base ok (.slice (some ⟨g, 0, none⟩) l0.length co) l0)
    (hA : A32 = if co = j then some ⟨g, 0, none⟩ else (some ⟨g, 0, none⟩ : Option Addr).map (·.add (j * 1))) (hyd : y = (l0.take E).drop j) (hL : E ≤ l0.length) (hM : j < E) (hc : y.length ≤ c32) :
    A32 = some ⟨g, j, none⟩ ∧ (l0.take j).length = j ∧ SubR (l0.take j) (l0.drop E) co w base ok (.slice A32 y.length c32) y := by
  have hroom := (Kd.R_reads' hr).2.1
  have hne : co ≠ j := by omega
  have hpl : (l0.take j).length = j := by rw [List.length_take]; omega
  have hA2 : A32 = some ⟨g, j, none⟩ := by rw [hA, if_neg hne]; simp only [Option.map_some, add_off]; simp
  have hw : l0.take j ++ y ++ l0.drop E = l0 := by
    have h1 : l0.take E = (l0.take E).take j ++ (l0.take E).drop j := (List.take_append_drop j _).symm
    rw [List.take_take, Nat.min_eq_left (by omega), ← hyd] at h1
    rw [← h1, List.take_append_drop]
  refine ⟨hA2, hpl, g, c32, by rw [hA2, hpl], hc, ?_⟩
  rw [hw]
  exact hr
theorem SubR.out_ {base ok} {g co : Nat} {w : World} {y r : List Int} {pre post : List Int} {n : Nat} {c32 : Nat} (h : SubR pre post co w base ok (.slice (some ⟨g, pre.length, none⟩) y.length c32) r) (hn : (pre ++ y ++ post).length = n) :
    (Kd.int .u32).R 23 w base ok (.slice (some ⟨g, 0, none⟩) n co) (pre ++ r ++ post) := by
  obtain ⟨g', c', e, hc, hr⟩ := h
  injection e with e1 e2 e3
  injection e1 with e1
  injection e1 with e1
  subst e1
  have : (pre ++ r ++ post).length = n := by rw [← hn]; simp only [List.length_append]; omega
  rw [this] at hr
  exact hr
def quot_less.at (k : Nat) (l0 : List Int) (j : Int) (l1 : List Int) (a2 : Int) : Option (Bool × List Int) := (quot_less.f k ((l0.take (wrap64 ((wrap64 (j + (l1.length : Int))) + 1) : Int).toNat).drop (j : Int).toNat) l1 a2).bind fun b => some (b.1, l0.take j.toNat ++ b.2 ++ l0.drop (wrap64 ((wrap64 (j + (l1.length : Int))) + 1) : Int).toNat)
def quot_more.at (k : Nat) (l0 : List Int) (j : Int) (l1 : List Int) : Option (List Int) := (quot_more.f k ((l0.take (wrap64 ((wrap64 (j + (l1.length : Int))) + 1) : Int).toNat).drop (j : Int).toNat) l1).bind fun b => some (l0.take j.toNat ++ b ++ l0.drop (wrap64 ((wrap64 (j + (l1.length : Int))) + 1) : Int).toNat)
theorem quot_less.at_mono : ∀ a j b c k, LeO (quot_less.at k a j b c) (quot_less.at (k + 1) a j b c) := fun _ _ _ _ _ => LeO.bind (quot_less.mono _ _ _ _) (fun _ => LeO.refl _)
theorem quot_more.at_mono : ∀ a j b k, LeO (quot_more.at k a j b) (quot_more.at (k + 1) a j b) := fun _ _ _ _ => LeO.bind (quot_more.mono _ _ _) (fun _ => LeO.refl _)
theorem quot_guess.len_ {k : Nat} {l0 l1 : List Int} {r : Int} (h : quot_guess.f k l0 l1 = some r) : l1.length < l0.length := by
  unfold quot_guess.f at h
  by_cases h1 : (l1.length : Int) < (l0.length : Int)
  · omega
  · rw [if_pos (Int.natCast_nonneg _), if_neg h1] at h
    cases h
theorem quot_less.callsAt (k : Nat) (P0_ : Nat → Prop) (Ao : Option Addr) (n co : Nat) (l0 : List Int) (A32 : Option Addr) (c32 : Nat) (y : List Int) (j : Int) (A1 : Option Addr) (c1 : Nat) (l1 : List Int) (a2 : Int) (r1 : Bool) (r2 : List Int) (w0 w : World) (hB : Below w0.heap.size w0 w) (ho0 : Kd.R (Kd.int .u32) 23 w w0.heap.size P0_ (.slice Ao n co) l0) (hr1 : ∀ W_, Kept w W_ (fun k_ => P0_ k_) → Kd.C (Kd.int .u32) W_ A1 l1.length l1) (hc1 : l1.length ≤ c1)
    (hA : A32 = if co = (j : Int).toNat then Ao else Ao.map (·.add ((j : Int).toNat * 1))) (hyd : y = (l0.take (wrap64 ((wrap64 (j + (l1.length : Int))) + 1) : Int).toNat).drop (j : Int).toNat) (hL : (wrap64 ((wrap64 (j + (l1.length : Int))) + 1) : Int).toNat ≤ n) (hlt : l1.length < y.length) (hc : y.length ≤ c32) (h : quot_less.at k l0 j l1 a2 = some (r1, r2)) :
    Calls Try.prog 65 #[.slice A32 y.length c32, .slice A1 l1.length c1, .int .u64 a2] w fun e w' => e = .returned (.bool r1) ∧ Kd.R (Kd.int .u32) 23 w' w0.heap.size (fun k_ => (P0_ k_ ∨ w.heap.size ≤ k_)) (.slice Ao n co) r2 ∧ Below w0.heap.size w0 w' ∧ Kept w w' (fun k_ => P0_ k_) := by
  obtain rfl : n = l0.length := (Kd.R_reads' ho0).1
  unfold quot_less.at at h
  rw [← hyd] at h
  obtain ⟨⟨b, p⟩, hf, he⟩ := Option.bind_eq_some_iff.mp h
  simp only [Option.some.injEq, Prod.mk.injEq] at he
  obtain ⟨rfl, rfl⟩ := he
  have hyl : y.length = (wrap64 ((wrap64 (j + (l1.length : Int))) + 1) : Int).toNat - (j : Int).toNat := by rw [hyd, List.length_drop, List.length_take]; omega
  obtain ⟨g, cap, ev, _, _, _⟩ := Kd.R_form ho0 (by omega)
  injection ev with ev1 _ ev3
  subst ev1
  obtain ⟨hA2, hpl, hs⟩ := SubR.mk_ ho0 hA hyd hL (by omega) hc
  have hw : (l0.take (j : Int).toNat ++ y ++ l0.drop (wrap64 ((wrap64 (j + (l1.length : Int))) + 1) : Int).toNat).length = l0.length := by simp only [List.length_append, List.length_take, List.length_drop]; omega
  refine (quot_less.calls_at k _ _ co P0_ _ y A1 c1 l1 a2 b p w0 w hB hs hr1 hc1 hf).mono ?_
  rintro e w' ⟨he, hsub, hb, hk⟩
  rw [hA2] at hsub
  rw [show (some ⟨g, (j : Int).toNat, none⟩ : Option Addr) = some ⟨g, (l0.take (j : Int).toNat).length, none⟩ by rw [hpl]] at hsub
  exact ⟨he, SubR.out_ hsub hw, hb, hk⟩
theorem quot_more.callsAt (k : Nat) (P0_ : Nat → Prop) (Ao : Option Addr) (n co : Nat) (l0 : List Int) (A32 : Option Addr) (c32 : Nat) (n32 : Nat) (j : Int) (A1 : Option Addr) (c1 : Nat) (l1 : List Int) (r2 : List Int) (w0 w : World) (hB : Below w0.heap.size w0 w) (ho0 : Kd.R (Kd.int .u32) 23 w w0.heap.size P0_ (.slice Ao n co) l0) (hr1 : ∀ W_, Kept w W_ (fun k_ => P0_ k_) → Kd.C (Kd.int .u32) W_ A1 l1.length l1) (hc1 : l1.length ≤ c1)
    (hA : A32 = if co = (j : Int).toNat then Ao else Ao.map (·.add ((j : Int).toNat * 1))) (hyl : n32 = (wrap64 ((wrap64 (j + (l1.length : Int))) + 1) : Int).toNat - (j : Int).toNat) (hL : (wrap64 ((wrap64 (j + (l1.length : Int))) + 1) : Int).toNat ≤ n) (hlt : l1.length < n32) (hc : n32 ≤ c32) (h : quot_more.at k l0 j l1 = some r2) :
    Calls Try.prog 66 #[.slice A32 n32 c32, .slice A1 l1.length c1] w fun e w' => e = .returned (.tuple #[]) ∧ Kd.R (Kd.int .u32) 23 w' w0.heap.size (fun k_ => (P0_ k_ ∨ w.heap.size ≤ k_)) (.slice Ao n co) r2 ∧ Below w0.heap.size w0 w' ∧ Kept w w' (fun k_ => P0_ k_) := by
  obtain rfl : n = l0.length := (Kd.R_reads' ho0).1
  unfold quot_more.at at h
  obtain ⟨y, hyd⟩ : ∃ y, y = (l0.take (wrap64 ((wrap64 (j + (l1.length : Int))) + 1) : Int).toNat).drop (j : Int).toNat := ⟨_, rfl⟩
  rw [← hyd] at h
  obtain ⟨p, hf, he⟩ := Option.bind_eq_some_iff.mp h
  obtain rfl := Option.some.inj he
  have hy2 : y.length = n32 := by rw [hyd, List.length_drop, List.length_take]; omega
  subst hy2
  obtain ⟨g, cap, ev, _, _, _⟩ := Kd.R_form ho0 (by omega)
  injection ev with ev1 _ ev3
  subst ev1
  obtain ⟨hA2, hpl, hs⟩ := SubR.mk_ ho0 hA hyd hL (by omega) hc
  have hw : (l0.take (j : Int).toNat ++ y ++ l0.drop (wrap64 ((wrap64 (j + (l1.length : Int))) + 1) : Int).toNat).length = l0.length := by simp only [List.length_append, List.length_take, List.length_drop]; omega
  refine (quot_more.calls_at k _ _ co P0_ _ y A1 c1 l1 p w0 w hB hs hr1 hc1 hf).mono ?_
  rintro e w' ⟨he, hsub, hb, hk⟩
  rw [hA2] at hsub
  rw [show (some ⟨g, (j : Int).toNat, none⟩ : Option Addr) = some ⟨g, (l0.take (j : Int).toNat).length, none⟩ by rw [hpl]] at hsub
  exact ⟨he, SubR.out_ hsub hw, hb, hk⟩

end Go.Proofs.Ytcepdndhkidehaa.PA
end
section
namespace Go.Proofs.Ytcepdndhkidehaa.PA
open Go.RowKit Go.Proofs.YtcepdndhkidehaaW.PrintWords Go.Proofs.YtcepdndhkidehaaW.PrintLast Go.Proofs.YtcepdndhkidehaaW.PrintMore
attribute [local go_sem] max2_int min2_int max_two min_two max_three min_three max_four min_four   -- for this text's walks alone
set_option linter.unusedVariables false
set_option linter.unusedSimpArgs false

/-! ### quot_back: function 67 -/
def quot_back.l0 : Nat → List Int → Int → List Int → Int → Int → Option (List Int)
  | 0, _, _, _, _, _ => none
  | k + 1, x0, x1, x5, x11, x12 => if x12 < x11 then (if 0 ≤ x12 then (if x12 < (x0.length : Int) then (if 0 ≤ x1 then (if x12 < (x5.length : Int) then ((some (x5.set (x12 : Int).toNat (shr .u32 (rd x0 x12) x1) : List Int)).bind fun y821 => (if (wrap64 (x12 + 1)) < (x0.length : Int) then (if 0 ≤ (wrap64 (x12 + 1)) then (quot_back.l0 k x0 x1 (y821.set (x12 : Int).toNat (Go.bits .or .u32 (rd y821 x12) ((shr .u64 (IntKind.u64.wrap ((IntKind.u64.wrap (rd x0 (wrap64 (x12 + 1)))) * 4294967296)) x1) % 4294967296))) x11 (wrap64 (x12 + 1))) else (none)) else (quot_back.l0 k x0 x1 y821 x11 (wrap64 (x12 + 1))))) else (none)) else (none)) else (none)) else (none)) else (some x5)
def quot_back.f (k : Nat) (l0 : List Int) (a1 : Int) : Option (List Int) := if 0 ≤ (l0.length : Int) then (if ((l0.length : Int) : Int).toNat ≤ 70368744177664 then (quot_back.l0 k l0 a1 (List.replicate ((l0.length : Int) : Int).toNat 0) (l0.length : Int) 0) else (none)) else (none)
theorem quot_back.mono_l : ∀ k, (∀ y0 y1 y2 y3 y4, LeO (quot_back.l0 k y0 y1 y2 y3 y4) (quot_back.l0 (k + 1) y0 y1 y2 y3 y4))
  | 0 => fun _ _ _ _ _ r h => by simp [quot_back.l0] at h
  | k + 1 => by
    have ih0 := quot_back.mono_l k
    intro y0 y1 y2 y3 y4
    unfold quot_back.l0
    repeat' first
    | (with_reducible exact ih0 _ _ _ _ _)
    | (with_reducible exact LeO.refl _)
    | (with_reducible exact LeO.none _)
    | (with_reducible refine LeO.ite ?_ ?_)
    | (with_reducible refine LeO.bind ?_ (fun _ => ?_))
    | exact ih0 _ _ _ _ _
    | exact LeO.none _
    | refine LeO.ite ?_ ?_
    | refine LeO.bind ?_ (fun _ => ?_)
theorem quot_back.mono : ∀ a0 a1 k, LeO (quot_back.f k a0 a1) (quot_back.f (k + 1) a0 a1) := by
  intro a0 a1 k
  have ih0 := quot_back.mono_l k
  unfold quot_back.f
  repeat' first
      | (with_reducible exact ih0 _ _ _ _ _)
      | (with_reducible exact LeO.refl _)
      | (with_reducible exact LeO.none _)
      | (with_reducible refine LeO.ite ?_ ?_)
      | (with_reducible refine LeO.bind ?_ (fun _ => ?_))
def quot_back.T7 : Bool × List (List Nat × List Nat) := (true, [([], []), ([], []), ([0, 1], [0, 1]), ([2], [2]), ([], []), ([], []), ([5], [5]), ([4, 6], [4, 6]), ([7], [7]), ([8], [8]), ([9], [9]), ([], []), ([10, 11], [10, 11]), ([12], [12]), ([3, 13], [3, 13]), ([0, 1, 0, 1, 2, 3, 4, 5, 6, 7, 8, 9, 10, 11, 12, 13, 14], [0, 1]), ([15, 14, 0, 1, 2, 3, 4, 5, 6, 7, 8, 9, 10, 11, 12, 13, 14], [14, 15])])
def quot_back.B7 : List Nat := [0, 0, 3, 7, 0, 0, 32, 112, 240, 496, 1008, 0, 4080, 8176, 16383, 32767, 65535]
theorem quot_back.tab7 : rtab .any (opsOf Try.f67 7) = quot_back.T7 := by kernel_rfl
theorem quot_back.bits7 : waitsOk quot_back.T7.2 quot_back.B7 = true := by kernel_rfl
set_option maxHeartbeats 8000000 in
set_option maxRecDepth 100000 in
theorem quot_back.calls (k : Nat) (A0 : Option Addr) (c0 : Nat) (l0 : List Int) (a1 : Int) (r : List Int) (w : World) (hr0 : Kd.C (Kd.int .u32) w A0 l0.length l0) (hc0 : l0.length ≤ c0) (h : quot_back.f k l0 a1 = some r) :
    Calls Try.prog 67 #[.slice A0 l0.length c0, .int .i64 a1] w fun e w' => ∃ v0_ : Value, e = .returned (v0_) ∧ Kd.R (Kd.int .u32) 23 w' w.heap.size (fun _ => True) v0_ r ∧ Below w.heap.size w w' := by
  have HR0 := Aside0.mk hr0
  have HC0 := Aside0.mk hc0
  clear hr0 hc0
  have HB := Aside0.mk (Below.refl w.heap.size w)
  have H : (if 0 ≤ (l0.length : Int) then (if ((l0.length : Int) : Int).toNat ≤ 70368744177664 then (quot_back.l0 k l0 a1 (List.replicate ((l0.length : Int) : Int).toNat 0) (l0.length : Int) 0) else (none)) else (none)) = some r := h
  clear h
  by_cases c3 : 0 ≤ (l0.length : Int)
  rotate_left
  · rw [if_neg c3] at H
    exact absurd H (by simp)

  rw [if_pos c3] at H
  have c3b0 := eq_true c3
  have c3b1 : decide (0 ≤ (l0.length : Int)) = true := decide_eq_true c3
  clear c3
  by_cases c4 : ((l0.length : Int) : Int).toNat ≤ 70368744177664
  rotate_left
  · rw [if_neg c4] at H
    exact absurd H (by simp)
  rw [if_pos c4] at H
  have c4b0 := eq_true c4
  have c4b1 : decide (((l0.length : Int) : Int).toNat ≤ 70368744177664) = true := decide_eq_true c4
  clear c4
  obtain ⟨y817, hy817⟩ : ∃ y_ : List Int, y_ = (List.replicate ((l0.length : Int) : Int).toNat 0) := ⟨_, rfl⟩
  replace H : (quot_back.l0 k l0 a1 y817 (l0.length : Int) 0) = some r := by first | (rw [hy817]; with_reducible exact H) | (have H2_ := (Option.bind_some _ _).symm.trans H; rw [hy817]; with_reducible exact H2_) | (have H2_ := (Option.bind_some _ _).symm.trans H; with_reducible exact H2_) | with_reducible exact H | (rw [hy817]; exact H) | exact H
  have Ny817 := Aside0.mk hy817
  clear hy817
  have H' := Aside0.mk H
  clear H
  go_enter Try.func67, Try.ntmps67
  go_wp2_with (first | ((with_reducible refine gate_dst (N := 9) rfl ?_); refine Kd.R_make (Kd.int .u32) _ 23 rfl (N := 9) rfl 22 _ _ rfl (l0.length : Int) rfl rfl Try.underlying22 (.int .u32 0) 4 info23 rfl (by decide) (by omega) 0 (ok := fun _ => True) (okp := fun _ => True) rfl (fun _ hk => hk) trivial (of_decide_eq_true (by assumption)) (Nat.le_trans (Nat.mul_le_mul_right _ (of_decide_eq_true (by assumption) : (l0.length : Int).toNat ≤ 70368744177664)) (by omega)) (Below.refl _ _) (Nat.le_refl _) ?_; intro v818 w5 ho6 hb hg_ hnew_; clear hg_ hnew_; (first | rw [← Ny817.out] at ho6 | (simp only [Int.reduceToNat] at ho6; rw [← Ny817.out] at ho6)); have HO819 := Aside0.mk (Kd.R_lower ho6 (below_size (by repeat (first | (with_reducible first | exact HB.out | apply below_alloc | apply pw_below_drewN | apply below_drew1) | exact HB.out)))); replace HB := Aside0.mk (below_step (by repeat (first | (with_reducible first | exact HB.out | apply below_alloc | apply pw_below_drewN | apply below_drew1) | exact HB.out)) hb); clear hb ho6))
  (try simp only [Act.put, List.setIfInBounds_toArray, List.set_cons_zero, List.set_cons_succ])
  go_loopg [12] k (fun kq v12 w' => ∃ (x5_1 : List Int) (x12_1 : Int), v12 = .int .i64 x12_1 ∧ Aside0 (quot_back.l0 kq l0 a1 x5_1 (l0.length : Int) x12_1 = some r) ∧ Aside0 (kq ≤ k) ∧ Aside0 (Kd.R (Kd.int .u32) 23 w' w.heap.size (fun _ => True) v818 x5_1) ∧ Aside0 (Below w.heap.size w w'))
  case atStart => exact ⟨(y817), (0), rfl, H', ⟨Nat.le_refl _⟩, ⟨by (with_reducible repeat (first | apply Kd.R_alloc | apply Kd.R_drewN | apply Kd.R_drew)); exact HO819.out⟩, ⟨by repeat (first | (with_reducible first | exact HB.out | apply below_alloc | apply pw_below_drewN | apply below_drew1) | exact HB.out)⟩⟩
  case round =>
    clear H'
    try clear p2
    try clear c3
    try clear c3b0
    try clear c3b1
    try clear c4
    try clear c4b0
    try clear c4b1
    try clear c6
    obtain ⟨x5_1, x12_1, rfl, HA, HK1, HO_5, HB⟩ := hrel
    cases gk with
    | zero => exact absurd HA.out (by simp [quot_back.l0])
    | succ k1 =>
      have H := HA.out
      clear HA
      simp only [quot_back.l0] at H
      by_cases c7 : x12_1 < (l0.length : Int)
      rotate_left
      · rw [if_neg c7] at H
        have c7b0 : decide (x12_1 < (l0.length : Int)) = false := decide_eq_false c7
        clear c7
        obtain rfl := Option.some.inj H
        go_wp2
        go_ret
        exact ⟨_, rfl, by (with_reducible repeat (first | apply Kd.R_alloc | apply Kd.R_drewN | apply Kd.R_drew)); exact HO_5.out, by repeat (first | (with_reducible first | exact HB.out | apply below_alloc | apply pw_below_drewN | apply below_drew1) | exact HB.out)⟩
      rw [if_pos c7] at H
      have c7b0 : decide (x12_1 < (l0.length : Int)) = true := decide_eq_true c7
      clear c7
      by_cases c8 : 0 ≤ x12_1
      rotate_left
      · rw [if_neg c8] at H
        exact absurd H (by simp)
      rw [if_pos c8] at H
      have c8b0 : decide (0 ≤ x12_1) = true := decide_eq_true c8
      clear c8
      by_cases c9 : x12_1 < (l0.length : Int)
      rotate_left
      · rw [if_neg c9] at H
        exact absurd H (by simp)
      rw [if_pos c9] at H
      have c9b0 : decide (x12_1 < (l0.length : Int)) = true := decide_eq_true c9
      clear c9
      by_cases c10 : 0 ≤ a1
      rotate_left
      · rw [if_neg c10] at H
        exact absurd H (by simp)
      rw [if_pos c10] at H
      have c10b0 := eq_true c10
      have c10b1 : decide (0 ≤ a1) = true := decide_eq_true c10
      clear c10
      obtain ⟨ji11, hji11⟩ : ∃ j_ : Int, (shr .u32 (rd l0 x12_1) a1) = j_ := ⟨_, rfl⟩
      replace H : (if x12_1 < (x5_1.length : Int) then ((some (x5_1.set (x12_1 : Int).toNat (ji11) : List Int)).bind fun y821 => (if (wrap64 (x12_1 + 1)) < (l0.length : Int) then (if 0 ≤ (wrap64 (x12_1 + 1)) then (quot_back.l0 k1 l0 a1 (y821.set (x12_1 : Int).toNat (Go.bits .or .u32 (rd y821 x12_1) ((shr .u64 (IntKind.u64.wrap ((IntKind.u64.wrap (rd l0 (wrap64 (x12_1 + 1)))) * 4294967296)) a1) % 4294967296))) (l0.length : Int) (wrap64 (x12_1 + 1))) else (none)) else (quot_back.l0 k1 l0 a1 y821 (l0.length : Int) (wrap64 (x12_1 + 1))))) else (none)) = some r := by first | (rw [hji11] at H; exact H) | (simp only [hji11] at H ⊢; exact H)
      have hji11_ : ((rd l0 x12_1) / 2 ^ min a1.toNat 32) = ji11 := hji11
      have hji11z : a1 ≤ 32 → ((rd l0 x12_1) / 2 ^ a1.toNat) = ji11 := shr_small hji11
      by_cases c12 : x12_1 < (x5_1.length : Int)
      rotate_left
      · rw [if_neg c12] at H
        exact absurd H (by simp)
      rw [if_pos c12] at H
      have c12b0 : decide (x12_1 < (x5_1.length : Int)) = true := decide_eq_true c12
      clear c12
      obtain ⟨y821, hy821⟩ : ∃ y_ : List Int, y_ = (x5_1.set (x12_1 : Int).toNat (ji11)) := ⟨_, rfl⟩
      replace H : (if (wrap64 (x12_1 + 1)) < (l0.length : Int) then (if 0 ≤ (wrap64 (x12_1 + 1)) then (quot_back.l0 k1 l0 a1 (y821.set (x12_1 : Int).toNat (Go.bits .or .u32 (rd y821 x12_1) ((shr .u64 (IntKind.u64.wrap ((IntKind.u64.wrap (rd l0 (wrap64 (x12_1 + 1)))) * 4294967296)) a1) % 4294967296))) (l0.length : Int) (wrap64 (x12_1 + 1))) else (none)) else (quot_back.l0 k1 l0 a1 y821 (l0.length : Int) (wrap64 (x12_1 + 1)))) = some r := by first | (rw [hy821]; with_reducible exact H) | (have H2_ := (Option.bind_some _ _).symm.trans H; rw [hy821]; with_reducible exact H2_) | (have H2_ := (Option.bind_some _ _).symm.trans H; with_reducible exact H2_) | with_reducible exact H | (rw [hy821]; exact H) | exact H
      have Ny821 := Aside0.mk hy821
      clear hy821
      by_cases c14 : (wrap64 (x12_1 + 1)) < (l0.length : Int)
      rotate_left
      · rw [if_neg c14] at H
        have c14b0 : decide ((wrap64 (x12_1 + 1)) < (l0.length : Int)) = false := decide_eq_false c14
        clear c14
        have H' := Aside0.mk H
        clear H
        have p820 : 0 ≤ (x12_1 : Int) := of_decide_eq_true (by assumption)
        have q820 : x12_1 < (l0.length : Int) := of_decide_eq_true (by assumption)
        obtain ⟨ad820, e820, hx820_0⟩ := Kd.at_int HR0.out x12_1 p820 q820
        cases e820
        replace hx820_0 := (HB.out.cell (World.block_lt_of_cell? w _ hx820_0)).trans hx820_0
        replace p820 := eq_true p820
        replace q820 := eq_true q820
        have p13 : 0 ≤ (x12_1 : Int) := of_decide_eq_true (by assumption)
        have q13 : (x12_1 : Int) < ((x5_1.length : Int) : Int) := of_decide_eq_true (by assumption)
        obtain ⟨go13, co13, eo13, gb13, gl13, cl13, HG13⟩ := Kd.R_form HO_5.out (by omega)
        (first | cases eo13 | (injection eo13 with ea_ en_ ec_; (first | subst ea_ | (injection ea_ with ea_; subst ea_)); subst ec_; clear en_))
        have GB13 := Aside0.mk gb13
        have GG13 := Aside0.mk HG13
        clear gb13 gl13 HG13
        obtain ⟨hx13_0, hf13_0⟩ := Kd.R_celln 0 HO_5.out (x12_1 : Int) p13 q13
        (try simp only [Go.IntWalk.toNatUp] at hx13_0 hf13_0)
        replace p13 := eq_true p13
        replace q13 := eq_true q13
        have HP24 := Kd.R_putg HO_5.out (x12_1 : Int) ji11
        go_wp2_with (first | ((with_reducible refine gate_store (t := 23) (p := 23) rfl ?_); refine store_event (t := 23) (p := 23) (v := ?vo_w25) (w1 := (wr.setCell ⟨go13, (x12_1 : Int).toNat, none⟩ (.int .u32 ji11))) ?hg ?ho ?hn ?hr ?_; (case ho => rfl); (case hg => rfl); (case hn => rfl); (case hr => first | (go_simp; done) | (go_simp; rfl)); intro w25 hw; have hg : wr.grownBy w25 (some go13) := (by rw [hw]; exact HP24.2); have hp_ : Kd.R (Kd.int .u32) 23 w25 w.heap.size (fun _ => True) (.slice (some ⟨go13, 0, none⟩) x5_1.length co13) y821 := (by rw [hw, Ny821.out]; exact HP24.1); clear HP24; replace HO_5 := Aside0.mk (hp_); replace HB := Aside0.mk ((by rw [hw]; exact below_set (HB.out) GB13.out : Below w.heap.size w w25)); clear hg hw hp_))
        go_roundg k1
        case measure => have := HK1.out; omega
        case rel => exact ⟨(y821), (wrap64 (x12_1 + 1)), rfl, H', ⟨by have := HK1.out; omega⟩, ⟨by (with_reducible repeat (first | apply Kd.R_alloc | apply Kd.R_drewN | apply Kd.R_drew)); exact HO_5.out⟩, ⟨by repeat (first | (with_reducible first | exact HB.out | apply below_alloc | apply pw_below_drewN | apply below_drew1) | exact HB.out)⟩⟩
      rw [if_pos c14] at H
      have c14b0 : decide ((wrap64 (x12_1 + 1)) < (l0.length : Int)) = true := decide_eq_true c14
      clear c14
      obtain ⟨ji15, hji15⟩ : ∃ j_ : Int, (wrap64 (x12_1 + 1)) = j_ := ⟨_, rfl⟩
      replace H : (if 0 ≤ (ji15) then (quot_back.l0 k1 l0 a1 (y821.set (x12_1 : Int).toNat (Go.bits .or .u32 (rd y821 x12_1) ((shr .u64 (IntKind.u64.wrap ((IntKind.u64.wrap (rd l0 (ji15))) * 4294967296)) a1) % 4294967296))) (l0.length : Int) ji15) else (none)) = some r := by first | (rw [hji15] at H; exact H) | (simp only [hji15] at H ⊢; exact H)
      (try rw [hji15] at c14b0)
      have hji15w : (IntKind.i64.wrap (x12_1 + 1)) = ji15 := (i64_w _).trans hji15
      by_cases c16 : 0 ≤ (ji15)
      rotate_left
      · rw [if_neg c16] at H
        exact absurd H (by simp)
      rw [if_pos c16] at H
      have c16b0 : decide (0 ≤ (ji15)) = true := decide_eq_true c16
      clear c16
      have c17b0 := eq_true (of_decide_eq_true (by assumption) : 0 ≤ a1)
      obtain ⟨ji18, hji18⟩ : ∃ j_ : Int, (shr .u64 (IntKind.u64.wrap ((IntKind.u64.wrap (rd l0 (ji15))) * 4294967296)) a1) = j_ := ⟨_, rfl⟩
      replace H : (quot_back.l0 k1 l0 a1 (y821.set (x12_1 : Int).toNat (Go.bits .or .u32 (rd y821 x12_1) ((ji18) % 4294967296))) (l0.length : Int) ji15) = some r := by first | (rw [hji18] at H; exact H) | (simp only [hji18] at H ⊢; exact H)
      have hji18_ : ((IntKind.u64.wrap ((IntKind.u64.wrap (rd l0 (ji15))) * 4294967296)) / 2 ^ min a1.toNat 64) = ji18 := hji18
      have hji18z : a1 ≤ 64 → ((IntKind.u64.wrap ((IntKind.u64.wrap (rd l0 (ji15))) * 4294967296)) / 2 ^ a1.toNat) = ji18 := shr_small hji18
      obtain ⟨y824, hy824⟩ : ∃ y_ : List Int, y_ = (y821.set (x12_1 : Int).toNat (Go.bits .or .u32 (rd y821 x12_1) ((ji18) % 4294967296))) := ⟨_, rfl⟩
      replace H : (quot_back.l0 k1 l0 a1 y824 (l0.length : Int) ji15) = some r := by first | (rw [hy824]; with_reducible exact H) | (have H2_ := (Option.bind_some _ _).symm.trans H; rw [hy824]; with_reducible exact H2_) | (have H2_ := (Option.bind_some _ _).symm.trans H; with_reducible exact H2_) | with_reducible exact H | (rw [hy824]; exact H) | exact H
      have Ny824 := Aside0.mk hy824
      clear hy824
      have H' := Aside0.mk H
      clear H
      have p820 : 0 ≤ (x12_1 : Int) := of_decide_eq_true (by assumption)
      have q820 : x12_1 < (l0.length : Int) := of_decide_eq_true (by assumption)
      obtain ⟨ad820, e820, hx820_0⟩ := Kd.at_int HR0.out x12_1 p820 q820
      cases e820
      replace hx820_0 := (HB.out.cell (World.block_lt_of_cell? w _ hx820_0)).trans hx820_0
      replace p820 := eq_true p820
      replace q820 := eq_true q820
      have p13 : 0 ≤ (x12_1 : Int) := of_decide_eq_true (by assumption)
      have q13 : (x12_1 : Int) < ((x5_1.length : Int) : Int) := of_decide_eq_true (by assumption)
      obtain ⟨go13, co13, eo13, gb13, gl13, cl13, HG13⟩ := Kd.R_form HO_5.out (by omega)
      (first | cases eo13 | (injection eo13 with ea_ en_ ec_; (first | subst ea_ | (injection ea_ with ea_; subst ea_)); subst ec_; clear en_))
      have GB13 := Aside0.mk gb13
      have GG13 := Aside0.mk HG13
      clear gb13 gl13 HG13
      obtain ⟨hx13_0, hf13_0⟩ := Kd.R_celln 0 HO_5.out (x12_1 : Int) p13 q13
      (try simp only [Go.IntWalk.toNatUp] at hx13_0 hf13_0)
      replace p13 := eq_true p13
      replace q13 := eq_true q13
      have HP20 := Kd.R_putg HO_5.out (x12_1 : Int) ji11
      try go_wp2_with (first | ((with_reducible refine gate_store (t := 23) (p := 23) rfl ?_); refine store_event (t := 23) (p := 23) (v := ?vo_w21) (w1 := (wr.setCell ⟨go13, (x12_1 : Int).toNat, none⟩ (.int .u32 ji11))) ?hg ?ho ?hn ?hr ?_; (case ho => rfl); (case hg => rfl); (case hn => rfl); (case hr => first | (go_simp; done) | (go_simp; rfl)); intro w21 hw; have hg : wr.grownBy w21 (some go13) := (by rw [hw]; exact HP20.2); have hp_ : Kd.R (Kd.int .u32) 23 w21 w.heap.size (fun _ => True) (.slice (some ⟨go13, 0, none⟩) x5_1.length co13) y821 := (by rw [hw, Ny821.out]; exact HP20.1); clear HP20; replace HO_5 := Aside0.mk (hp_); replace HB := Aside0.mk ((by rw [hw]; exact below_set (HB.out) GB13.out : Below w.heap.size w w21)); clear hg hw hp_))
      replace HO_5 := Aside0.mk (Kd.R_drew HO_5.out)
      replace HB := Aside0.mk (below_drew1 HB.out)
      have p822 : 0 ≤ (x12_1 : Int) := of_decide_eq_true (by assumption)
      have q822 : x12_1 < (y821.length : Int) := (by have h_ : (x12_1 : Int) < ((x5_1.length : Int) : Int) := of_decide_eq_true (by assumption); first | (have e_ := (Kd.R_reads' HO_5.out).1; omega) | simpa only [Ny821.out, List.length_set] using h_)
      have ql822 : ((x12_1 : Int) < ((x5_1.length : Int) : Int)) = True := eq_true (of_decide_eq_true (by assumption))
      obtain ⟨ad822, e822, hx822_0⟩ := Kd.at_int (Kd.R_reads' HO_5.out).2.2 x12_1 p822 q822
      obtain rfl : (⟨go13, 0, none⟩ : Addr) = ad822 := (by injection e822)
      (first | simp only [add_plain] at hx822_0 | simp only [add_at] at hx822_0 | simp only [Addr.add, Nat.zero_add] at hx822_0 | skip)
      replace p822 := eq_true p822
      replace q822 := eq_true q822
      have p823 : 0 ≤ ((ji15) : Int) := of_decide_eq_true (by assumption)
      have q823 : (ji15) < (l0.length : Int) := of_decide_eq_true (by assumption)
      obtain ⟨ad823, e823, hx823_0⟩ := Kd.at_int HR0.out (ji15) p823 q823
      have hw823_0 := hx823_0
      obtain rfl : ad820 = ad823 := (by injection e823)
      replace hx823_0 := (HB.out.cell (World.block_lt_of_cell? w _ hx823_0)).trans hx823_0
      replace p823 := eq_true p823
      replace q823 := eq_true q823
      have p19 : 0 ≤ (x12_1 : Int) := of_decide_eq_true (by assumption)
      have q19 : (x12_1 : Int) < ((x5_1.length : Int) : Int) := of_decide_eq_true (by assumption)
      obtain ⟨hx19_0, hf19_0⟩ := Kd.R_celln 0 HO_5.out (x12_1 : Int) p19 q19
      (try simp only [Go.IntWalk.toNatUp] at hx19_0 hf19_0)
      replace p19 := eq_true p19
      replace q19 := eq_true q19
      have HP23 := Kd.R_putn HO_5.out (x12_1 : Int) (Go.bits .or .u32 (rd y821 x12_1) ((ji18) % 4294967296))
      rw [← Ny824.out] at HP23
      have HQ23 := Aside0.mk HP23
      clear HP23
      refine start_ (n := 17) (S := fun w' => w'.cell? ⟨go13, (x12_1).toNat, none⟩ = some (.int .u32 (rd y821 x12_1)) ∧ w'.cell? (ad820.add ((ji15)).toNat) = some (.int .u32 (rd l0 (ji15)))) (ds := [16]) #[false, false, false, false, false, false, false, false, false, false, false, false, false, false, false, false, false] (by kernel_rfl) rfl rfl ⟨hx822_0, ((HB.out.cell (World.block_lt_of_cell? w _ hw823_0)).trans hw823_0)⟩ (fun hHeld => ?_); refine with_tabW quot_back.tab7 quot_back.bits7 (fun HT_ HW_ => ?_)
      generalize w21.drew = w22 at HO_5 HB HQ23 hf19_0 hx19_0 hx822_0 hx823_0 hHeld ⊢
      refine pure_ (i := 0) (N := some 29) (v := ?_) (a' := ?_) #[true, false, false, false, false, false, false, false, false, false, false, false, false, false, false, false, false] rfl rfl (any_of HT_.out (by kernel_rfl)) (fun _ _ _ h => h) (Or.inl ⟨by rfl, ?_⟩) ?_ ?_
      rotate_left
      · intro w'
        go_simp
        with_reducible rfl
      rotate_left
      · simp only [Act.put, List.setIfInBounds_toArray, List.set_cons_zero, List.set_cons_succ, i64_w, i32_w]
        rfl
      refine pure_ (i := 1) (N := some 30) (v := ?_) (a' := ?_) #[true, true, false, false, false, false, false, false, false, false, false, false, false, false, false, false, false] rfl rfl (any_of HT_.out (by kernel_rfl)) (fun _ _ _ h => h) (Or.inl ⟨by rfl, ?_⟩) ?_ ?_
      rotate_left
      · intro w'
        go_simp
        with_reducible rfl
      rotate_left
      · simp only [Act.put, List.setIfInBounds_toArray, List.set_cons_zero, List.set_cons_succ, i64_w, i32_w]
        rfl
      refine pure_ (i := 2) (N := some 31) (v := ?_) (a' := ?_) #[true, true, true, false, false, false, false, false, false, false, false, false, false, false, false, false, false] rfl rfl (any_of HT_.out (by kernel_rfl)) (fun _ _ _ h => h) (Or.inl ⟨by rfl, ?_⟩) ?_ ?_
      rotate_left
      · intro w'
        go_simp
        with_reducible rfl
      rotate_left
      · simp only [Act.put, List.setIfInBounds_toArray, List.set_cons_zero, List.set_cons_succ, i64_w, i32_w]
        rfl
      refine pure_ (i := 4) (N := some 33) (v := ?_) (a' := ?_) #[true, true, true, false, true, false, false, false, false, false, false, false, false, false, false, false, false] rfl rfl (any_of HT_.out (by kernel_rfl)) (fun _ _ _ h => h) (Or.inl ⟨by rfl, ?_⟩) ?_ ?_
      rotate_left
      · intro w'
        go_simp
        with_reducible rfl
      rotate_left
      · simp only [Act.put, List.setIfInBounds_toArray, List.set_cons_zero, List.set_cons_succ, i64_w, i32_w]
        rfl
      refine pure_ (i := 5) (N := some 34) (v := ?_) (a' := ?_) #[true, true, true, false, true, true, false, false, false, false, false, false, false, false, false, false, false] rfl rfl (any_of HT_.out (by kernel_rfl)) (fun _ _ _ h => h) (Or.inl ⟨by rfl, ?_⟩) ?_ ?_
      rotate_left
      · intro w'
        go_simp
        with_reducible rfl
      rotate_left
      · simp only [Act.put, List.setIfInBounds_toArray, List.set_cons_zero, List.set_cons_succ, i64_w, i32_w]
        rfl
      refine pure_ (i := 6) (N := some 35) (v := ?_) (a' := ?_) #[true, true, true, false, true, true, true, false, false, false, false, false, false, false, false, false, false] rfl rfl (any_of HT_.out (by kernel_rfl)) (fun _ _ _ h => h) (Or.inl ⟨by rfl, ?_⟩) ?_ ?_
      rotate_left
      · intro w'
        go_simp
        with_reducible rfl
      rotate_left
      · simp only [Act.put, List.setIfInBounds_toArray, List.set_cons_zero, List.set_cons_succ, i64_w, i32_w]
        rfl
      refine pure_ (i := 7) (N := some 36) (v := ?_) (a' := ?_) #[true, true, true, false, true, true, true, true, false, false, false, false, false, false, false, false, false] rfl rfl (any_of HT_.out (by kernel_rfl)) (fun _ _ _ h => h) (Or.inl ⟨by rfl, ?_⟩) ?_ ?_
      rotate_left
      · intro w'
        go_simp
        with_reducible rfl
      rotate_left
      · simp only [Act.put, List.setIfInBounds_toArray, List.set_cons_zero, List.set_cons_succ, i64_w, i32_w]
        rfl
      refine pure_ (i := 11) (N := some 40) (v := ?_) (a' := ?_) #[true, true, true, false, true, true, true, true, false, false, false, true, false, false, false, false, false] rfl rfl (any_of HT_.out (by kernel_rfl)) (fun _ _ _ h => h) (Or.inl ⟨by rfl, ?_⟩) ?_ ?_
      rotate_left
      · intro w'
        go_simp
        with_reducible rfl
      rotate_left
      · simp only [Act.put, List.setIfInBounds_toArray, List.set_cons_zero, List.set_cons_succ, i64_w, i32_w]
        rfl
      refine take_ (i := 3) (N := some 32) (v := ?_) (a' := ?_) #[true, true, true, true, true, true, true, true, false, false, false, true, false, false, false, false, false] rfl rfl (take_ofW HT_.out HW_.out (by kernel_rfl)) (fun _ _ _ h => h) (Or.inl ⟨by rfl, ?_⟩) hHeld ?_ ?_
      rotate_left
      · rintro w' ⟨s0, s1⟩
        go_simp
        with_reducible rfl
      rotate_left
      · simp only [Act.put, List.setIfInBounds_toArray, List.set_cons_zero, List.set_cons_succ, i64_w, i32_w]
        rfl
      refine take_ (i := 8) (N := some 37) (v := ?_) (a' := ?_) #[true, true, true, true, true, true, true, true, true, false, false, true, false, false, false, false, false] rfl rfl (take_ofW HT_.out HW_.out (by kernel_rfl)) (fun _ _ _ h => h) (Or.inl ⟨by rfl, ?_⟩) hHeld ?_ ?_
      rotate_left
      · rintro w' ⟨s0, s1⟩
        go_simp
        with_reducible rfl
      rotate_left
      · simp only [Act.put, List.setIfInBounds_toArray, List.set_cons_zero, List.set_cons_succ, i64_w, i32_w]
        rfl
      refine pure_ (i := 9) (N := some 38) (v := ?_) (a' := ?_) #[true, true, true, true, true, true, true, true, true, true, false, true, false, false, false, false, false] rfl rfl (any_of HT_.out (by kernel_rfl)) (fun _ _ _ h => h) (Or.inl ⟨by rfl, ?_⟩) ?_ ?_
      rotate_left
      · intro w'
        go_simp
        with_reducible rfl
      rotate_left
      · simp only [Act.put, List.setIfInBounds_toArray, List.set_cons_zero, List.set_cons_succ, i64_w, i32_w]
        rfl
      refine pure_ (i := 10) (N := some 39) (v := ?_) (a' := ?_) #[true, true, true, true, true, true, true, true, true, true, true, true, false, false, false, false, false] rfl rfl (any_of HT_.out (by kernel_rfl)) (fun _ _ _ h => h) (Or.inl ⟨by rfl, ?_⟩) ?_ ?_
      rotate_left
      · intro w'
        go_simp
        with_reducible rfl
      rotate_left
      · simp only [Act.put, List.setIfInBounds_toArray, List.set_cons_zero, List.set_cons_succ, i64_w, i32_w]
        rfl
      refine pure_ (i := 12) (N := some 41) (v := ?_) (a' := ?_) #[true, true, true, true, true, true, true, true, true, true, true, true, true, false, false, false, false] rfl rfl (any_of HT_.out (by kernel_rfl)) (fun _ _ _ h => h) (Or.inl ⟨by rfl, ?_⟩) ?_ ?_
      rotate_left
      · intro w'
        go_simp
        with_reducible rfl
      rotate_left
      · simp only [Act.put, List.setIfInBounds_toArray, List.set_cons_zero, List.set_cons_succ, i64_w, i32_w]
        rfl
      refine pure_ (i := 13) (N := some 42) (v := ?_) (a' := ?_) #[true, true, true, true, true, true, true, true, true, true, true, true, true, true, false, false, false] rfl rfl (any_of HT_.out (by kernel_rfl)) (fun _ _ _ h => h) (Or.inl ⟨by rfl, ?_⟩) ?_ ?_
      rotate_left
      · intro w'
        go_simp
        with_reducible rfl
      rotate_left
      · simp only [Act.put, List.setIfInBounds_toArray, List.set_cons_zero, List.set_cons_succ, i64_w, i32_w]
        rfl
      refine pure_ (i := 14) (N := some 43) (v := ?_) (a' := ?_) #[true, true, true, true, true, true, true, true, true, true, true, true, true, true, true, false, false] rfl rfl (any_of HT_.out (by kernel_rfl)) (fun _ _ _ h => h) (Or.inl ⟨by rfl, ?_⟩) ?_ ?_
      rotate_left
      · intro w'
        go_simp
        with_reducible rfl
      rotate_left
      · simp only [Act.put, List.setIfInBounds_toArray, List.set_cons_zero, List.set_cons_succ, i64_w, i32_w]
        rfl
      refine pure_ (i := 15) (N := some 44) (v := ?_) (a' := ?_) #[true, true, true, true, true, true, true, true, true, true, true, true, true, true, true, true, false] rfl rfl (any_of HT_.out (by kernel_rfl)) (fun _ _ _ h => h) (Or.inl ⟨by rfl, ?_⟩) ?_ ?_
      rotate_left
      · intro w'
        go_simp
        with_reducible rfl
      rotate_left
      · simp only [Act.put, List.setIfInBounds_toArray, List.set_cons_zero, List.set_cons_succ, i64_w, i32_w]
        rfl
      refine last_ (i := 16) (N := none) #[true, true, true, true, true, true, true, true, true, true, true, true, true, true, true, true, true] rfl rfl (one_of HT_.out (by kernel_rfl)) (by decide) (fun K hK => ?_)
      refine skip_ (w1 := ?_) (by rfl) rfl ?_ ?_
      rotate_left
      · go_simp
        rfl
      refine hK.out _ _ ?_
      clear hK K
      refine done_ (done_of HT_.out (by kernel_rfl)) ?_
      try go_wp2
      go_roundg k1
      case measure => have := HK1.out; omega
      case rel => exact ⟨(y824), (ji15), (by first | rfl | (simp; done) | (simp only [← hji15] <;> (first | rfl | simp)) | (simp [*]; done)), H', ⟨by have := HK1.out; omega⟩, ⟨by (with_reducible repeat (first | apply Kd.R_alloc | apply Kd.R_drewN | apply Kd.R_drew)); exact HQ23.out⟩, ⟨by repeat (first | (with_reducible first | exact HB.out | apply below_alloc | apply pw_below_drewN | apply below_drew1 | refine below_set ?_ GB13.out) | exact HB.out)⟩⟩
end Go.Proofs.Ytcepdndhkidehaa.PA
end
section
namespace Go.Proofs.Ytcepdndhkidehaa.PA
open Go.RowKit Go.Proofs.YtcepdndhkidehaaW.PrintWords Go.Proofs.YtcepdndhkidehaaW.PrintLast Go.Proofs.YtcepdndhkidehaaW.PrintMore
attribute [local go_sem] max2_int min2_int max_two min_two max_three min_three max_four min_four   -- for this text's walks alone
set_option linter.unusedVariables false
set_option linter.unusedSimpArgs false

/-! ### quot_long: function 58 -/
def quot_long.l0 : Nat → Int → List Int → List Int → List Int → Int → Option (List Int × List Int)
  | 0, _, _, _, _, _ => none
  | k + 1, x6, x7, x8, x9, x10 => if x10 ≥ 0 then (if 0 ≤ x10 then (if x10 ≤ (wrap64 ((wrap64 (x10 + (x8.length : Int))) + 1)) then (if (wrap64 ((wrap64 (x10 + (x8.length : Int))) + 1)) ≤ (x7.length : Int) then ((quot_guess.f k ((x7.take ((wrap64 ((wrap64 (x10 + (x8.length : Int))) + 1)) : Int).toNat).drop (x10 : Int).toNat) x8).bind fun t851 => ((quot_less.at k x7 x10 x8 t851).bind fun bt852 => (if bt852.1 = true then ((quot_more.at k bt852.2 x10 x8).bind fun t854 => (if x10 < (x9.length : Int) then (quot_long.l0 k x6 t854 x8 (x9.set (x10 : Int).toNat ((IntKind.u64.wrap (t851 - 1)) % 4294967296)) (wrap64 (x10 - 1))) else (none))) else (if x10 < (x9.length : Int) then (quot_long.l0 k x6 bt852.2 x8 (x9.set (x10 : Int).toNat ((t851) % 4294967296)) (wrap64 (x10 - 1))) else (none))))) else (none)) else (none)) else (none)) else (if 0 ≤ (x8.length : Int) then (if (x8.length : Int) ≤ (x7.length : Int) then ((quot_back.f k (x7.take ((x8.length : Int) : Int).toNat) x6).bind fun t844 => (some (x9, t844))) else (none)) else (none))
def quot_long.f (k : Nat) (l0 : List Int) (l1 : List Int) : Option (List Int × List Int) := if 0 ≤ (wrap64 ((l1.length : Int) - 1)) then (if (wrap64 ((l1.length : Int) - 1)) < (l1.length : Int) then ((bits_LeadingZeros32.f (rd l1 (wrap64 ((l1.length : Int) - 1)))).bind fun t826 => ((quot_shifted.f k l0 t826).bind fun t827 => ((quot_shifted.f k l1 t826).bind fun t830 => (if 0 ≤ (l1.length : Int) then (if (l1.length : Int) ≤ (t830.length : Int) then (if 0 ≤ (wrap64 ((wrap64 ((l0.length : Int) - (l1.length : Int))) + 1)) then (if (wrap64 ((wrap64 ((l0.length : Int) - (l1.length : Int))) + 1) : Int).toNat ≤ 70368744177664 then ((some (List.replicate (wrap64 ((wrap64 ((l0.length : Int) - (l1.length : Int))) + 1) : Int).toNat 0 : List Int)).bind fun y837 => (quot_long.l0 k t826 t827 (t830.take ((l1.length : Int) : Int).toNat) y837 (wrap64 ((y837.length : Int) - 1)))) else (none)) else (none)) else (none)) else (none))))) else (none)) else (none)
theorem quot_long.mono_l : ∀ k, (∀ y0 y1 y2 y3 y4, LeO (quot_long.l0 k y0 y1 y2 y3 y4) (quot_long.l0 (k + 1) y0 y1 y2 y3 y4))
  | 0 => fun _ _ _ _ _ r h => by simp [quot_long.l0] at h
  | k + 1 => by
    have ih0 := quot_long.mono_l k
    intro y0 y1 y2 y3 y4
    unfold quot_long.l0
    repeat' first
    | (with_reducible exact ih0 _ _ _ _ _)
    | (with_reducible exact quot_back.mono _ _ _)
    | (with_reducible exact quot_guess.mono _ _ _)
    | (with_reducible exact quot_less.at_mono _ _ _ _ _)
    | (with_reducible exact quot_more.at_mono _ _ _ _)
    | (with_reducible exact quot_shifted.mono _ _ _)
    | (with_reducible exact LeO.refl _)
    | (with_reducible exact LeO.none _)
    | (with_reducible refine LeO.ite ?_ ?_)
    | (with_reducible refine LeO.bind ?_ (fun _ => ?_))
    | exact ih0 _ _ _ _ _
    | exact quot_back.mono _ _ _
    | exact quot_guess.mono _ _ _
    | exact quot_less.at_mono _ _ _ _ _
    | exact quot_more.at_mono _ _ _ _
    | exact quot_shifted.mono _ _ _
    | exact LeO.none _
    | refine LeO.ite ?_ ?_
    | refine LeO.bind ?_ (fun _ => ?_)
theorem quot_long.mono : ∀ a0 a1 k, LeO (quot_long.f k a0 a1) (quot_long.f (k + 1) a0 a1) := by
  intro a0 a1 k
  have ih0 := quot_long.mono_l k
  unfold quot_long.f
  repeat' first
      | (with_reducible exact ih0 _ _ _ _ _)
      | (with_reducible exact quot_back.mono _ _ _)
      | (with_reducible exact quot_guess.mono _ _ _)
      | (with_reducible exact quot_less.at_mono _ _ _ _ _)
      | (with_reducible exact quot_more.at_mono _ _ _ _)
      | (with_reducible exact quot_shifted.mono _ _ _)
      | (with_reducible exact LeO.refl _)
      | (with_reducible exact LeO.none _)
      | (with_reducible refine LeO.ite ?_ ?_)
      | (with_reducible refine LeO.bind ?_ (fun _ => ?_))
      | exact quot_less.at_mono _ _ _ _ _
      | exact quot_more.at_mono _ _ _ _
def quot_long.T2 : Bool × List (List Nat × List Nat) := (true, [([], []), ([], []), ([0, 1], [0, 1]), ([], []), ([], []), ([3, 4, 2], [3, 4]), ([], []), ([6], [6]), ([5, 7], [5, 7]), ([2, 5, 0, 1, 2], [2]), ([8, 9, 0, 1, 2, 3, 4, 5, 6, 7, 8, 9], [8])])
def quot_long.B2 : List Nat := [0, 0, 3, 0, 0, 31, 0, 64, 255, 63, 1023]
theorem quot_long.tab2 : rtab .any (opsOf Try.f58 2) = quot_long.T2 := by kernel_rfl
theorem quot_long.bits2 : waitsOk quot_long.T2.2 quot_long.B2 = true := by kernel_rfl
set_option maxHeartbeats 8000000 in
set_option maxRecDepth 100000 in
theorem quot_long.calls (k : Nat) (A0 : Option Addr) (c0 : Nat) (l0 : List Int) (A1 : Option Addr) (c1 : Nat) (l1 : List Int) (r1 : List Int) (r2 : List Int) (w : World) (hr0 : Kd.C (Kd.int .u32) w A0 l0.length l0) (hc0 : l0.length ≤ c0) (hr1 : Kd.C (Kd.int .u32) w A1 l1.length l1) (hc1 : l1.length ≤ c1) (h : quot_long.f k l0 l1 = some (r1, r2)) :
    Calls Try.prog 58 #[.slice A0 l0.length c0, .slice A1 l1.length c1] w fun e w' => ∃ v0_ v1_ : Value, e = .returned (.tuple #[v0_, v1_]) ∧ Kd.R (Kd.int .u32) 23 w' w.heap.size (fun k_ => some k_ ≠ (v1_ : Value).ownBlock) v0_ r1 ∧ Kd.R (Kd.int .u32) 23 w' w.heap.size (fun k_ => some k_ ≠ (v0_ : Value).ownBlock) v1_ r2 ∧ Below w.heap.size w w' := by
  have HR0 := Aside0.mk hr0
  have HC0 := Aside0.mk hc0
  clear hr0 hc0
  have HR1 := Aside0.mk hr1
  have HC1 := Aside0.mk hc1
  clear hr1 hc1
  have HB := Aside0.mk (Below.refl w.heap.size w)
  have H : (if 0 ≤ (wrap64 ((l1.length : Int) - 1)) then (if (wrap64 ((l1.length : Int) - 1)) < (l1.length : Int) then ((bits_LeadingZeros32.f (rd l1 (wrap64 ((l1.length : Int) - 1)))).bind fun t826 => ((quot_shifted.f k l0 t826).bind fun t827 => ((quot_shifted.f k l1 t826).bind fun t830 => (if 0 ≤ (l1.length : Int) then (if (l1.length : Int) ≤ (t830.length : Int) then (if 0 ≤ (wrap64 ((wrap64 ((l0.length : Int) - (l1.length : Int))) + 1)) then (if (wrap64 ((wrap64 ((l0.length : Int) - (l1.length : Int))) + 1) : Int).toNat ≤ 70368744177664 then ((some (List.replicate (wrap64 ((wrap64 ((l0.length : Int) - (l1.length : Int))) + 1) : Int).toNat 0 : List Int)).bind fun y837 => (quot_long.l0 k t826 t827 (t830.take ((l1.length : Int) : Int).toNat) y837 (wrap64 ((y837.length : Int) - 1)))) else (none)) else (none)) else (none)) else (none))))) else (none)) else (none)) = some (r1, r2) := h
  clear h
  obtain ⟨ji3, hji3⟩ : ∃ j_ : Int, (wrap64 ((l1.length : Int) - 1)) = j_ := ⟨_, rfl⟩
  replace H : (if 0 ≤ (ji3) then (if (ji3) < (l1.length : Int) then ((bits_LeadingZeros32.f (rd l1 (ji3))).bind fun t826 => ((quot_shifted.f k l0 t826).bind fun t827 => ((quot_shifted.f k l1 t826).bind fun t830 => (if 0 ≤ (l1.length : Int) then (if (l1.length : Int) ≤ (t830.length : Int) then (if 0 ≤ (wrap64 ((wrap64 ((l0.length : Int) - (l1.length : Int))) + 1)) then (if (wrap64 ((wrap64 ((l0.length : Int) - (l1.length : Int))) + 1) : Int).toNat ≤ 70368744177664 then ((some (List.replicate (wrap64 ((wrap64 ((l0.length : Int) - (l1.length : Int))) + 1) : Int).toNat 0 : List Int)).bind fun y837 => (quot_long.l0 k t826 t827 (t830.take ((l1.length : Int) : Int).toNat) y837 (wrap64 ((y837.length : Int) - 1)))) else (none)) else (none)) else (none)) else (none))))) else (none)) else (none)) = some (r1, r2) := by first | (rw [hji3] at H; exact H) | (simp only [hji3] at H ⊢; exact H)
  have hji3w : (IntKind.i64.wrap ((l1.length : Int) - 1)) = ji3 := (i64_w _).trans hji3
  by_cases c4 : 0 ≤ (ji3)
  rotate_left
  · rw [if_neg c4] at H
    exact absurd H (by simp)

  rw [if_pos c4] at H
  have c4b0 : decide (0 ≤ (ji3)) = true := decide_eq_true c4
  clear c4
  by_cases c5 : (ji3) < (l1.length : Int)
  rotate_left
  · rw [if_neg c5] at H
    exact absurd H (by simp)
  rw [if_pos c5] at H
  have c5b0 : decide ((ji3) < (l1.length : Int)) = true := decide_eq_true c5
  clear c5
  replace H := Option.bind_eq_some_iff.mp H
  obtain ⟨t826, A60, H⟩ := H
  have A6 := Aside0.mk A60
  clear A60
  replace H := Option.bind_eq_some_iff.mp H
  obtain ⟨t827, A70, H⟩ := H
  have A7 := Aside0.mk A70
  clear A70
  replace H := Option.bind_eq_some_iff.mp H
  obtain ⟨t830, A80, H⟩ := H
  have A8 := Aside0.mk A80
  clear A80
  by_cases c9 : 0 ≤ (l1.length : Int)
  rotate_left
  · rw [if_neg c9] at H
    exact absurd H (by simp)
  rw [if_pos c9] at H
  have c9b0 := eq_true c9
  have c9b1 : decide (0 ≤ (l1.length : Int)) = true := decide_eq_true c9
  clear c9
  by_cases c10 : (l1.length : Int) ≤ (t830.length : Int)
  rotate_left
  · rw [if_neg c10] at H
    exact absurd H (by simp)
  rw [if_pos c10] at H
  have c10b0 := eq_true c10
  have c10b1 : decide ((l1.length : Int) ≤ (t830.length : Int)) = true := decide_eq_true c10
  clear c10
  obtain ⟨y833, hy833⟩ : ∃ y_ : List Int, y_ = (t830.take ((l1.length : Int) : Int).toNat) := ⟨_, rfl⟩
  replace H : (if 0 ≤ (wrap64 ((wrap64 ((l0.length : Int) - (l1.length : Int))) + 1)) then (if (wrap64 ((wrap64 ((l0.length : Int) - (l1.length : Int))) + 1) : Int).toNat ≤ 70368744177664 then ((some (List.replicate (wrap64 ((wrap64 ((l0.length : Int) - (l1.length : Int))) + 1) : Int).toNat 0 : List Int)).bind fun y837 => (quot_long.l0 k t826 t827 y833 y837 (wrap64 ((y837.length : Int) - 1)))) else (none)) else (none)) = some (r1, r2) := by first | (rw [hy833]; with_reducible exact H) | (have H2_ := (Option.bind_some _ _).symm.trans H; rw [hy833]; with_reducible exact H2_) | (have H2_ := (Option.bind_some _ _).symm.trans H; with_reducible exact H2_) | with_reducible exact H | (rw [hy833]; exact H) | exact H
  have Ny833 := Aside0.mk hy833
  clear hy833
  obtain ⟨ji11, hji11⟩ : ∃ j_ : Int, (wrap64 ((wrap64 ((l0.length : Int) - (l1.length : Int))) + 1)) = j_ := ⟨_, rfl⟩
  replace H : (if 0 ≤ (ji11) then (if (ji11 : Int).toNat ≤ 70368744177664 then ((some (List.replicate (ji11 : Int).toNat 0 : List Int)).bind fun y837 => (quot_long.l0 k t826 t827 y833 y837 (wrap64 ((y837.length : Int) - 1)))) else (none)) else (none)) = some (r1, r2) := by first | (rw [hji11] at H; exact H) | (simp only [hji11] at H ⊢; exact H)
  (try rw [hji11] at A6)
  (try rw [hji11] at A7)
  (try rw [hji11] at A8)
  have hji11w : (IntKind.i64.wrap ((wrap64 ((l0.length : Int) - (l1.length : Int))) + 1)) = ji11 := (i64_w _).trans hji11
  by_cases c12 : 0 ≤ (ji11)
  rotate_left
  · rw [if_neg c12] at H
    exact absurd H (by simp)
  rw [if_pos c12] at H
  have c12b0 := eq_true c12
  have c12b1 : decide (0 ≤ (ji11)) = true := decide_eq_true c12
  clear c12
  by_cases c13 : (ji11 : Int).toNat ≤ 70368744177664
  rotate_left
  · rw [if_neg c13] at H
    exact absurd H (by simp)
  rw [if_pos c13] at H
  have c13b0 := eq_true c13
  have c13b1 : decide ((ji11 : Int).toNat ≤ 70368744177664) = true := decide_eq_true c13
  clear c13
  obtain ⟨y837, hy837⟩ : ∃ y_ : List Int, y_ = (List.replicate (ji11 : Int).toNat 0) := ⟨_, rfl⟩
  replace H : (quot_long.l0 k t826 t827 y833 y837 (wrap64 ((y837.length : Int) - 1))) = some (r1, r2) := by first | (rw [hy837]; with_reducible exact H) | (have H2_ := (Option.bind_some _ _).symm.trans H; rw [hy837]; with_reducible exact H2_) | (have H2_ := (Option.bind_some _ _).symm.trans H; with_reducible exact H2_) | with_reducible exact H | (rw [hy837]; exact H) | exact H
  have Ny837 := Aside0.mk hy837
  clear hy837
  have H' := Aside0.mk H
  clear H
  have p825 : 0 ≤ ((ji3) : Int) := of_decide_eq_true (by assumption)
  have q825 : (ji3) < (l1.length : Int) := of_decide_eq_true (by assumption)
  obtain ⟨ad825, e825, hx825_0⟩ := Kd.at_int HR1.out (ji3) p825 q825
  cases e825
  replace p825 := eq_true p825
  replace q825 := eq_true q825
  go_enter Try.func58, Try.ntmps58
  try go_wp2_with (first | ((with_reducible refine gate_callee (f := 62) rfl ?_); refine goesL_ (some 19) rfl rfl Try.func62 (by kernel_rfl) rfl #[.int .u32 (rd l1 (ji3))] rfl (by (try simp only [List.map_toArray, List.map_cons, List.map_nil]); first | done | (simp only [hji3]; rfl) | rfl | (simp only [List.length_drop, List.length_take]; rfl)) ?_; (with_reducible refine (bits_LeadingZeros32.calls (rd l1 (ji3)) t826 _ A6.out).mono ?_); rintro e w' ⟨rfl, ⟨nd, rfl⟩⟩; refine ⟨_, rfl, ?_⟩; generalize hq_ : World.drewN w nd = wq_; have n0_ : Aside0 (Below w.heap.size w wq_) := ⟨by rw [← hq_]; exact pw_below_drewN HB.out _⟩; clear HB hq_; have HB := n0_; clear n0_))
  replace HB := Aside0.mk (below_drew1 HB.out)
  refine start_ (n := 11) (S := fun w' => True) (ds := []) #[false, false, false, false, false, false, false, false, false, false, false] (by kernel_rfl) rfl rfl trivial (fun hHeld => ?_); refine with_tabW quot_long.tab2 quot_long.bits2 (fun HT_ HW_ => ?_)
  generalize wq_.drew = w14 at HB hHeld ⊢
  refine pure_ (i := 0) (N := some 20) (v := ?_) (a' := ?_) #[true, false, false, false, false, false, false, false, false, false, false] rfl rfl (any_of HT_.out (by kernel_rfl)) (fun _ _ _ h => h) (Or.inl ⟨by rfl, ?_⟩) ?_ ?_
  rotate_left
  · intro w'
    go_simp
    with_reducible rfl
  rotate_left
  · simp only [Act.put, List.setIfInBounds_toArray, List.set_cons_zero, List.set_cons_succ, i64_w, i32_w]
    rfl
  refine pure_ (i := 1) (N := some 21) (v := ?_) (a' := ?_) #[true, true, false, false, false, false, false, false, false, false, false] rfl rfl (any_of HT_.out (by kernel_rfl)) (fun _ _ _ h => h) (Or.inl ⟨by rfl, ?_⟩) ?_ ?_
  rotate_left
  · intro w'
    go_simp
    with_reducible rfl
  rotate_left
  · simp only [Act.put, List.setIfInBounds_toArray, List.set_cons_zero, List.set_cons_succ, i64_w, i32_w]
    rfl
  refine pure_ (i := 3) (N := some 23) (v := ?_) (a' := ?_) #[true, true, false, true, false, false, false, false, false, false, false] rfl rfl (any_of HT_.out (by kernel_rfl)) (fun _ _ _ h => h) (Or.inl ⟨by rfl, ?_⟩) ?_ ?_
  rotate_left
  · intro w'
    go_simp
    with_reducible rfl
  rotate_left
  · simp only [Act.put, List.setIfInBounds_toArray, List.set_cons_zero, List.set_cons_succ, i64_w, i32_w]
    rfl
  refine pure_ (i := 4) (N := some 24) (v := ?_) (a' := ?_) #[true, true, false, true, true, false, false, false, false, false, false] rfl rfl (any_of HT_.out (by kernel_rfl)) (fun _ _ _ h => h) (Or.inl ⟨by rfl, ?_⟩) ?_ ?_
  rotate_left
  · intro w'
    go_simp
    with_reducible rfl
  rotate_left
  · simp only [Act.put, List.setIfInBounds_toArray, List.set_cons_zero, List.set_cons_succ, i64_w, i32_w]
    rfl
  refine pure_ (i := 6) (N := some 26) (v := ?_) (a' := ?_) #[true, true, false, true, true, false, true, false, false, false, false] rfl rfl (any_of HT_.out (by kernel_rfl)) (fun _ _ _ h => h) (Or.inl ⟨by rfl, ?_⟩) ?_ ?_
  rotate_left
  · intro w'
    go_simp
    with_reducible rfl
  rotate_left
  · simp only [Act.put, List.setIfInBounds_toArray, List.set_cons_zero, List.set_cons_succ, i64_w, i32_w]
    rfl
  refine pure_ (i := 7) (N := some 27) (v := ?_) (a' := ?_) #[true, true, false, true, true, false, true, true, false, false, false] rfl rfl (any_of HT_.out (by kernel_rfl)) (fun _ _ _ h => h) (Or.inl ⟨by rfl, ?_⟩) ?_ ?_
  rotate_left
  · intro w'
    go_simp
    with_reducible rfl
  rotate_left
  · simp only [Act.put, List.setIfInBounds_toArray, List.set_cons_zero, List.set_cons_succ, i64_w, i32_w]
    rfl
  refine one_ (i := 2) (N := some 22) #[true, true, true, true, true, false, true, true, false, false, false] rfl rfl (one_of HT_.out (by kernel_rfl)) (by decide) (fun K hK => ?_)
  refine goes_ Try.func63 (by kernel_rfl) rfl #[.slice A0 l0.length c0, .int .i64 t826] (by rfl) rfl rfl (by (try simp only [List.map_toArray, List.map_cons, List.map_nil]); first | done | rfl | (simp only [List.length_drop, List.length_take]; rfl)) ?_
  with_reducible refine (quot_shifted.calls k _ _ l0 t826 t827 _ ?side1 ?side2 A7.out).mono ?_
  (case side1 => repeat (first | exact (Kd.C_below HR0.out HB.out) | (with_reducible refine Kd.C_alloc ?_ _) | (with_reducible refine Kd.C_drewN ?_ _) | (with_reducible refine Kd.C_drew ?_)))
  (case side2 => exact HC0.out)
  rintro e w15 ⟨v828, rfl, ho0, hb⟩
  refine ⟨_, rfl, ?_⟩
  have HO829 := Aside0.mk (Kd.R_lower ho0 (below_size (by repeat (first | (with_reducible first | exact HB.out | apply below_alloc | apply pw_below_drewN | apply below_drew1) | exact HB.out))))
  replace HB := Aside0.mk (below_step (by repeat (first | (with_reducible first | exact HB.out | apply below_alloc | apply pw_below_drewN | apply below_drew1) | exact HB.out)) hb)
  (try clear hb)
  (try clear hb2)
  (try clear hk)
  (try clear hi)
  (try clear ho0)
  refine hK.out _ _ trivial (fun hHeld => ?_)
  clear hK K
  refine norm_ (a' := ?_) ?_ ?_
  rotate_left
  · show Act.put _ (some 22) _ = _
    simp only [Act.put, List.setIfInBounds_toArray, List.set_cons_zero, List.set_cons_succ, i64_w, i32_w]
    rfl
  refine one_ (i := 5) (N := some 25) #[true, true, true, true, true, true, true, true, false, false, false] rfl rfl (one_of HT_.out (by kernel_rfl)) (by decide) (fun K hK => ?_)
  refine goes_ Try.func63 (by kernel_rfl) rfl #[.slice (some ad825) l1.length c1, .int .i64 t826] (by rfl) rfl rfl (by (try simp only [List.map_toArray, List.map_cons, List.map_nil]); first | done | rfl | (simp only [List.length_drop, List.length_take]; rfl)) ?_
  with_reducible refine (quot_shifted.calls k _ _ l1 t826 t830 _ ?side1 ?side2 A8.out).mono ?_
  (case side1 => repeat (first | exact (Kd.C_below HR1.out HB.out) | (with_reducible refine Kd.C_alloc ?_ _) | (with_reducible refine Kd.C_drewN ?_ _) | (with_reducible refine Kd.C_drew ?_)))
  (case side2 => exact HC1.out)
  rintro e w16 ⟨v831, rfl, ho0, hb⟩
  refine ⟨_, rfl, ?_⟩
  have HO832 := Aside0.mk (Kd.R_lower (Kd.R_new' ho0 (Kd.R_lt (by (with_reducible repeat (first | apply Kd.R_alloc | apply Kd.R_drewN | apply Kd.R_drew)); exact HO829.out))) (below_size (by repeat (first | (with_reducible first | exact HB.out | apply below_alloc | apply pw_below_drewN | apply below_drew1) | exact HB.out))))
  replace HO829 := Aside0.mk (Kd.R_elder' (by (with_reducible repeat (first | apply Kd.R_alloc | apply Kd.R_drewN | apply Kd.R_drew)); exact HO829.out) (Kd.R_base ho0) hb)
  replace HB := Aside0.mk (below_step (by repeat (first | (with_reducible first | exact HB.out | apply below_alloc | apply pw_below_drewN | apply below_drew1) | exact HB.out)) hb)
  (try clear hb)
  (try clear hb2)
  (try clear hk)
  (try clear hi)
  (try clear ho0)
  obtain ⟨Ao18, co18, eo18⟩ := Kd.R_slice HO832.out
  (first | subst eo18 | (injection eo18 with f1_ f2_ f3_; have f4_ := f1_.symm; have f5_ := f3_.symm; clear f1_ f2_ f3_; subst f4_; subst f5_))
  have q17 : ((l1.length : Int) : Int) ≤ ((t830.length : Int) : Int) := of_decide_eq_true (by assumption)
  obtain ⟨i017, hi017, _, hsz17, _⟩ := info_parts info23
  have hroom17 : t830.length ≤ co18 := (Kd.R_reads' HO832.out).2.1
  have hC17 : Kd.C (Kd.int .u32) _ Ao18 t830.length t830 := (Kd.R_reads' HO832.out).2.2
  have hcut17 := cut_to (P := Try.prog) 22 23 .i64 Try.underlying22 hi017 Ao18 t830.length co18 (l1.length : Int) (of_decide_eq_true (by assumption)) q17 hroom17
  have hr17 := Kd.C_take (m := ((l1.length : Int) : Int).toNat) hC17 (by omega)
  have hy17 : y833.length = ((l1.length : Int) : Int).toNat := (by rw [Ny833.out, List.length_take]; omega)
  rw [← Ny833.out] at hr17
  rw [← hy17] at hcut17
  have HR836 := Aside0.mk hr17
  have HC836 := Aside0.mk (show y833.length ≤ co18 from by omega)
  clear hr17 hC17 hroom17 hi017 hsz17
  have KY17 := Aside0.mk hy17
  clear hy17
  have KL17 := Aside0.mk (show ((l1.length : Int) : Int).toNat ≤ t830.length from by omega)
  replace q17 := eq_true q17
  refine hK.out _ _ trivial (fun hHeld => ?_)
  clear hK K
  refine norm_ (a' := ?_) ?_ ?_
  rotate_left
  · show Act.put _ (some 25) _ = _
    simp only [Act.put, List.setIfInBounds_toArray, List.set_cons_zero, List.set_cons_succ, i64_w, i32_w]
    rfl
  refine pure_ (i := 8) (N := some 28) (v := ?_) (a' := ?_) #[true, true, true, true, true, true, true, true, true, false, false] rfl rfl (any_of HT_.out (by kernel_rfl)) (fun _ _ _ h => h) (Or.inl ⟨by rfl, ?_⟩) ?_ ?_
  rotate_left
  · intro w'
    go_simp
    with_reducible rfl
  rotate_left
  · simp only [Act.put, List.setIfInBounds_toArray, List.set_cons_zero, List.set_cons_succ, i64_w, i32_w]
    rfl
  refine pure_ (i := 9) (N := some 7) (v := ?_) (a' := ?_) #[true, true, true, true, true, true, true, true, true, true, false] rfl rfl (any_of HT_.out (by kernel_rfl)) (fun _ _ _ h => h) (Or.inl ⟨by rfl, ?_⟩) ?_ ?_
  rotate_left
  · intro w'
    go_simp
    with_reducible rfl
  rotate_left
  · simp only [Act.put, List.setIfInBounds_toArray, List.set_cons_zero, List.set_cons_succ, i64_w, i32_w]
    rfl
  refine pure_ (i := 10) (N := some 8) (v := ?_) (a' := ?_) #[true, true, true, true, true, true, true, true, true, true, true] rfl rfl (any_of HT_.out (by kernel_rfl)) (fun _ _ _ h => h) (Or.inl ⟨by rfl, ?_⟩) ?_ ?_
  rotate_left
  · intro w'
    go_simp
    with_reducible rfl
  rotate_left
  · simp only [Act.put, List.setIfInBounds_toArray, List.set_cons_zero, List.set_cons_succ, i64_w, i32_w]
    rfl
  refine done_ (done_of HT_.out (by kernel_rfl)) ?_
  try go_wp2_with (first | ((with_reducible refine gate_dst (N := 35) rfl ?_); refine Kd.R_make (Kd.int .u32) _ 23 rfl (N := 35) rfl 22 _ _ rfl ji11 rfl rfl Try.underlying22 (.int .u32 0) 4 info23 rfl (by decide) (by omega) 0 (ok := fun _ => True) (okp := fun _ => True) rfl (fun _ hk => hk) trivial (of_decide_eq_true (by assumption)) (Nat.le_trans (Nat.mul_le_mul_right _ (of_decide_eq_true (by assumption) : ji11.toNat ≤ 70368744177664)) (by omega)) (Below.refl _ _) (Nat.le_refl _) ?_; intro v838 w19 ho20 hb hg_ hnew_; clear hg_ hnew_; (first | rw [← Ny837.out] at ho20 | (simp only [Int.reduceToNat] at ho20; rw [← Ny837.out] at ho20)); have HO839 := Aside0.mk (Kd.R_lower (Kd.R_new' (Kd.R_new' ho20 (Kd.R_lt (by (with_reducible repeat (first | apply Kd.R_alloc | apply Kd.R_drewN | apply Kd.R_drew)); exact HO829.out))) (Kd.R_lt (by (with_reducible repeat (first | apply Kd.R_alloc | apply Kd.R_drewN | apply Kd.R_drew)); exact HO832.out))) (below_size (by repeat (first | (with_reducible first | exact HB.out | apply below_alloc | apply pw_below_drewN | apply below_drew1) | exact HB.out)))); replace HO829 := Aside0.mk (Kd.R_elder' (by (with_reducible repeat (first | apply Kd.R_alloc | apply Kd.R_drewN | apply Kd.R_drew)); exact HO829.out) (Kd.R_base ho20) hb); replace HO832 := Aside0.mk (Kd.R_elder' (by (with_reducible repeat (first | apply Kd.R_alloc | apply Kd.R_drewN | apply Kd.R_drew)); exact HO832.out) (Kd.R_base ho20) hb); replace HR836 := Aside0.mk (Kd.C_below (by repeat (first | (with_reducible exact HR836.out) | (with_reducible refine Kd.C_alloc ?_ _) | (with_reducible refine Kd.C_drewN ?_ _) | (with_reducible refine Kd.C_drew ?_) | exact HR836.out)) hb); replace HB := Aside0.mk (below_step (by repeat (first | (with_reducible first | exact HB.out | apply below_alloc | apply pw_below_drewN | apply below_drew1) | exact HB.out)) hb); clear hb ho20; obtain ⟨Ao21, co21, eo21⟩ := Kd.R_slice HO839.out; subst eo21))
  have HvC : Aside0 (∀ (W_ : World) (ok_ : Nat → Prop), Kd.R (Kd.int .u32) 23 W_ w.heap.size ok_ (.slice Ao18 t830.length co18) t830 → Kd.C (Kd.int .u32) W_ Ao18 y833.length y833) := ⟨fun W_ ok_ h1_ => by have h_ := Kd.C_take (m := ((l1.length : Int) : Int).toNat) (Kd.R_reads' h1_).2.2 (by have := KL17.out; omega); rw [← Ny833.out] at h_; exact h_⟩
  (try simp only [Act.put, List.setIfInBounds_toArray, List.set_cons_zero, List.set_cons_succ])
  go_loopg [10] k (fun kq v10 w' => ∃ (x7_1 : List Int) (x9_1 : List Int) (x10_1 : Int), v10 = .int .i64 x10_1 ∧ Aside0 (quot_long.l0 kq t826 x7_1 y833 x9_1 x10_1 = some (r1, r2)) ∧ Aside0 (kq ≤ k) ∧ Aside0 (Kd.R (Kd.int .u32) 23 w' w.heap.size (fun k_ => some k_ ≠ ((.slice Ao21 y837.length co21) : Value).ownBlock) v828 x7_1) ∧ Aside0 (Kd.R (Kd.int .u32) 23 w' w.heap.size (fun k_ => some k_ ≠ (v828 : Value).ownBlock) (.slice Ao21 y837.length co21) x9_1) ∧ Aside0 (Kd.R (Kd.int .u32) 23 w' w.heap.size (fun k_ => some k_ ≠ (v828 : Value).ownBlock ∧ some k_ ≠ ((.slice Ao21 y837.length co21) : Value).ownBlock) (.slice Ao18 t830.length co18) t830) ∧ Aside0 (Below w.heap.size w w'))
  case atStart => exact ⟨(t827), (y837), (wrap64 ((y837.length : Int) - 1)), rfl, H', ⟨Nat.le_refl _⟩, ⟨by (with_reducible repeat (first | apply Kd.R_alloc | apply Kd.R_drewN | apply Kd.R_drew)); exact Kd.R_mono HO829.out (fun _ hk => hk.2)⟩, ⟨by (with_reducible repeat (first | apply Kd.R_alloc | apply Kd.R_drewN | apply Kd.R_drew)); exact Kd.R_mono HO839.out (fun _ hk => hk.1.2)⟩, ⟨by (with_reducible repeat (first | apply Kd.R_alloc | apply Kd.R_drewN | apply Kd.R_drew)); exact Kd.R_mono HO832.out (fun _ hk => ⟨hk.1.2, hk.2⟩)⟩, ⟨by repeat (first | (with_reducible first | exact HB.out | apply below_alloc | apply pw_below_drewN | apply below_drew1) | exact HB.out)⟩⟩
  case round =>
    clear H'
    try clear c1
    try clear q1
    try clear p2
    try clear c4
    try clear c4b0
    try clear c5
    try clear c5b0
    try clear c6
    try clear p6
    try clear p8
    try clear q8
    try clear hx8
    try clear c9
    try clear c9b0
    try clear c9b1
    try clear c10
    try clear c10b0
    try clear c10b1
    try clear c12
    try clear c12b0
    try clear c12b1
    try clear c13
    try clear c13b0
    try clear c13b1
    try clear q17
    try clear hx825_0
    try clear p825
    try clear q17
    try clear q825
    obtain ⟨x7_1, x9_1, x10_1, rfl, HA, HK1, HO_7, HO_9, HV, HB⟩ := hrel
    have hl9_1 := (Kd.R_reads' HO_9.out).1
    rw [hl9_1] at HO_9
    (try simp only [hl9_1])
    (try simp only [hl9_1] at HO_7)
    (try simp only [hl9_1] at HV)
    cases gk with
    | zero => exact absurd HA.out (by simp [quot_long.l0])
    | succ k1 =>
      have H := HA.out
      clear HA
      simp only [quot_long.l0] at H
      by_cases c22 : x10_1 ≥ 0
      rotate_left
      · rw [if_neg c22] at H
        have c22b0 : decide (0 ≤ x10_1) = false := decide_eq_false c22
        (try simp only [hl9_1] at c22b0)
        clear c22
        by_cases c45 : 0 ≤ (y833.length : Int)
        rotate_left
        · rw [if_neg c45] at H
          exact absurd H (by simp)
        rw [if_pos c45] at H
        have c45b0 := eq_true c45
        have c45b1 : decide (0 ≤ (y833.length : Int)) = true := decide_eq_true c45
        clear c45
        by_cases c46 : (y833.length : Int) ≤ (x7_1.length : Int)
        rotate_left
        · rw [if_neg c46] at H
          exact absurd H (by simp)
        rw [if_pos c46] at H
        have c46b0 := eq_true c46
        have c46b1 : decide ((y833.length : Int) ≤ (x7_1.length : Int)) = true := decide_eq_true c46
        clear c46
        obtain ⟨y840, hy840⟩ : ∃ y_ : List Int, y_ = (x7_1.take ((y833.length : Int) : Int).toNat) := ⟨_, rfl⟩
        replace H : ((quot_back.f k1 y840 t826).bind fun t844 => (some (x9_1, t844))) = some (r1, r2) := by first | (rw [hy840]; with_reducible exact H) | (have H2_ := (Option.bind_some _ _).symm.trans H; rw [hy840]; with_reducible exact H2_) | (have H2_ := (Option.bind_some _ _).symm.trans H; with_reducible exact H2_) | with_reducible exact H | (rw [hy840]; exact H) | exact H
        have Ny840 := Aside0.mk hy840
        clear hy840
        replace H := Option.bind_eq_some_iff.mp H
        obtain ⟨t844, A470, H⟩ := H
        have A47 := Aside0.mk A470
        clear A470
        simp only [Option.some.injEq, Prod.mk.injEq] at H
        obtain ⟨rfl, rfl⟩ := H
        obtain ⟨Ao49, co49, eo49⟩ := Kd.R_slice HO_7.out
        subst eo49
        have q48 : ((y833.length : Int) : Int) ≤ ((x7_1.length : Int) : Int) := of_decide_eq_true (by assumption)
        obtain ⟨i048, hi048, _, hsz48, _⟩ := info_parts info23
        have hroom48 : x7_1.length ≤ co49 := (Kd.R_reads' HO_7.out).2.1
        have hC48 : Kd.C (Kd.int .u32) _ Ao49 x7_1.length x7_1 := (Kd.R_reads' HO_7.out).2.2
        have hcut48 := cut_to (P := Try.prog) 22 23 .i64 Try.underlying22 hi048 Ao49 x7_1.length co49 (y833.length : Int) (of_decide_eq_true (by assumption)) q48 hroom48
        have hr48 := Kd.C_take (m := ((y833.length : Int) : Int).toNat) hC48 (by omega)
        have hy48 : y840.length = ((y833.length : Int) : Int).toNat := (by rw [Ny840.out, List.length_take]; omega)
        rw [← Ny840.out] at hr48
        rw [← hy48] at hcut48
        have HR843 := Aside0.mk hr48
        have HC843 := Aside0.mk (show y840.length ≤ co49 from by omega)
        clear hr48 hC48 hroom48 hi048 hsz48
        have KY48 := Aside0.mk hy48
        clear hy48
        have KL48 := Aside0.mk (show ((y833.length : Int) : Int).toNat ≤ x7_1.length from by omega)
        replace q48 := eq_true q48
        go_wp2_with (first | ((with_reducible refine gate_callee (f := 67) rfl ?_); refine goesL_ (some 74) rfl rfl Try.func67 (by kernel_rfl) rfl #[.slice Ao49 y840.length co49, .int .i64 t826] rfl (by (try simp only [List.map_toArray, List.map_cons, List.map_nil]); first | done | rfl | (simp only [List.length_drop, List.length_take]; rfl)) ?_; (with_reducible refine (quot_back.calls k1 _ _ y840 t826 t844 _ ?side1 ?side2 A47.out).mono ?_); (case side1 => repeat (first | exact (by repeat (first | (with_reducible exact HR843.out) | (with_reducible refine Kd.C_alloc ?_ _) | (with_reducible refine Kd.C_drewN ?_ _) | (with_reducible refine Kd.C_drew ?_) | exact HR843.out)) | (with_reducible refine Kd.C_alloc ?_ _) | (with_reducible refine Kd.C_drewN ?_ _) | (with_reducible refine Kd.C_drew ?_))); (case side2 => exact HC843.out); rintro e w50 ⟨v845, rfl, ho0, hb⟩; refine ⟨_, rfl, ?_⟩; have HO846 := Aside0.mk (Kd.R_lower (Kd.R_new' (Kd.R_new' ho0 (Kd.R_lt (by (with_reducible repeat (first | apply Kd.R_alloc | apply Kd.R_drewN | apply Kd.R_drew)); exact HO_7.out))) (Kd.R_lt (by (with_reducible repeat (first | apply Kd.R_alloc | apply Kd.R_drewN | apply Kd.R_drew)); exact HO_9.out))) (below_size (by repeat (first | (with_reducible first | exact HB.out | apply below_alloc | apply pw_below_drewN | apply below_drew1) | exact HB.out)))); replace HO_7 := Aside0.mk (Kd.R_elder' (by (with_reducible repeat (first | apply Kd.R_alloc | apply Kd.R_drewN | apply Kd.R_drew)); exact HO_7.out) (Kd.R_base ho0) hb); replace HO_9 := Aside0.mk (Kd.R_elder' (by (with_reducible repeat (first | apply Kd.R_alloc | apply Kd.R_drewN | apply Kd.R_drew)); exact HO_9.out) (Kd.R_base ho0) hb); replace HR843 := Aside0.mk (Kd.C_below (by repeat (first | (with_reducible exact HR843.out) | (with_reducible refine Kd.C_alloc ?_ _) | (with_reducible refine Kd.C_drewN ?_ _) | (with_reducible refine Kd.C_drew ?_) | exact HR843.out)) hb); replace HB := Aside0.mk (below_step (by repeat (first | (with_reducible first | exact HB.out | apply below_alloc | apply pw_below_drewN | apply below_drew1) | exact HB.out)) hb)))
        go_ret2
        exact ⟨_, _, by first | rfl | (simp [errW_none, errW_some] <;> rfl) | (simp only [← hji3, ← hji11]; first | rfl | (simp [errW_none, errW_some] <;> rfl)) | (simp [*, errW_none, errW_some] <;> rfl), by (with_reducible repeat (first | apply Kd.R_alloc | apply Kd.R_drewN | apply Kd.R_drew)); exact Kd.R_mono HO_9.out (fun _ hk => hk.2), by (with_reducible repeat (first | apply Kd.R_alloc | apply Kd.R_drewN | apply Kd.R_drew)); exact Kd.R_mono HO846.out (fun _ hk => hk.2), by repeat (first | (with_reducible first | exact HB.out | apply below_alloc | apply pw_below_drewN | apply below_drew1) | exact HB.out)⟩
      rw [if_pos c22] at H
      have c22b0 : decide (0 ≤ x10_1) = true := decide_eq_true c22
      (try simp only [hl9_1] at c22b0)
      clear c22
      by_cases c23 : 0 ≤ x10_1
      rotate_left
      · rw [if_neg c23] at H
        exact absurd H (by simp)
      rw [if_pos c23] at H
      have c23b0 := eq_true c23
      have c23b1 : decide (0 ≤ x10_1) = true := decide_eq_true c23
      clear c23
      by_cases c24 : x10_1 ≤ (wrap64 ((wrap64 (x10_1 + (y833.length : Int))) + 1))
      rotate_left
      · rw [if_neg c24] at H
        exact absurd H (by simp)
      rw [if_pos c24] at H
      have c24b0 := eq_true c24
      have c24b1 : decide (x10_1 ≤ (wrap64 ((wrap64 (x10_1 + (y833.length : Int))) + 1))) = true := decide_eq_true c24
      by_cases c25 : (wrap64 ((wrap64 (x10_1 + (y833.length : Int))) + 1)) ≤ (x7_1.length : Int)
      rotate_left
      · rw [if_neg c25] at H
        exact absurd H (by simp)
      rw [if_pos c25] at H
      have c25b0 := eq_true c25
      have c25b1 : decide ((wrap64 ((wrap64 (x10_1 + (y833.length : Int))) + 1)) ≤ (x7_1.length : Int)) = true := decide_eq_true c25
      obtain ⟨y847, hy847⟩ : ∃ y_ : List Int, y_ = ((x7_1.take ((wrap64 ((wrap64 (x10_1 + (y833.length : Int))) + 1)) : Int).toNat).drop (x10_1 : Int).toNat) := ⟨_, rfl⟩
      replace H : ((quot_guess.f k1 y847 y833).bind fun t851 => ((quot_less.at k1 x7_1 x10_1 y833 t851).bind fun bt852 => (if bt852.1 = true then ((quot_more.at k1 bt852.2 x10_1 y833).bind fun t854 => (if x10_1 < (x9_1.length : Int) then (quot_long.l0 k1 t826 t854 y833 (x9_1.set (x10_1 : Int).toNat ((IntKind.u64.wrap (t851 - 1)) % 4294967296)) (wrap64 (x10_1 - 1))) else (none))) else (if x10_1 < (x9_1.length : Int) then (quot_long.l0 k1 t826 bt852.2 y833 (x9_1.set (x10_1 : Int).toNat ((t851) % 4294967296)) (wrap64 (x10_1 - 1))) else (none))))) = some (r1, r2) := by first | (rw [hy847]; with_reducible exact H) | (have H2_ := (Option.bind_some _ _).symm.trans H; rw [hy847]; with_reducible exact H2_) | (have H2_ := (Option.bind_some _ _).symm.trans H; with_reducible exact H2_) | with_reducible exact H | (rw [hy847]; exact H) | exact H
      have Ny847 := Aside0.mk hy847
      clear hy847
      replace H := Option.bind_eq_some_iff.mp H
      obtain ⟨t851, A260, H⟩ := H
      have A26 := Aside0.mk A260
      clear A260
      replace H := Option.bind_eq_some_iff.mp H
      obtain ⟨⟨t852, t853⟩, A270, H⟩ := H
      have A27 := Aside0.mk A270
      clear A270
      by_cases c28 : t852 = true
      rotate_left
      · replace c28 := Bool.eq_false_iff.mpr c28
        subst c28
        have H1 : (if x10_1 < (x9_1.length : Int) then (quot_long.l0 k1 t826 t853 y833 (x9_1.set (x10_1 : Int).toNat ((t851) % 4294967296)) (wrap64 (x10_1 - 1))) else (none)) = some (r1, r2) := by rw [if_neg (show ¬ (false = true) by decide)] at H; exact H
        clear H
        have H := H1
        clear H1
        by_cases c38 : x10_1 < (x9_1.length : Int)
        rotate_left
        · rw [if_neg c38] at H
          exact absurd H (by simp)
        rw [if_pos c38] at H
        have c38b0 : decide (x10_1 < (x9_1.length : Int)) = true := decide_eq_true c38
        (try simp only [hl9_1] at c38b0)
        clear c38
        obtain ⟨y856, hy856⟩ : ∃ y_ : List Int, y_ = (x9_1.set (x10_1 : Int).toNat ((t851) % 4294967296)) := ⟨_, rfl⟩
        replace H : (quot_long.l0 k1 t826 t853 y833 y856 (wrap64 (x10_1 - 1))) = some (r1, r2) := by first | (rw [hy856]; with_reducible exact H) | (have H2_ := (Option.bind_some _ _).symm.trans H; rw [hy856]; with_reducible exact H2_) | (have H2_ := (Option.bind_some _ _).symm.trans H; with_reducible exact H2_) | with_reducible exact H | (rw [hy856]; exact H) | exact H
        have Ny856 := Aside0.mk hy856
        clear hy856
        have H' := Aside0.mk H
        clear H
        obtain ⟨Ao41, co41, eo41⟩ := Kd.R_slice HO_7.out
        subst eo41
        have q40 : ((wrap64 ((wrap64 (x10_1 + (y833.length : Int))) + 1)) : Int) ≤ ((x7_1.length : Int) : Int) := of_decide_eq_true (by assumption)
        obtain ⟨i040, hi040, _, hsz40, _⟩ := info_parts info23
        have hroom40 : x7_1.length ≤ co41 := (Kd.R_reads' HO_7.out).2.1
        have hC40 : Kd.C (Kd.int .u32) _ Ao41 x7_1.length x7_1 := (Kd.R_reads' HO_7.out).2.2
        have ql40 : (x10_1 : Int) ≤ ((wrap64 ((wrap64 (x10_1 + (y833.length : Int))) + 1)) : Int) := of_decide_eq_true (by assumption)
        have q040 : (0 : Int) ≤ (x10_1 : Int) := of_decide_eq_true (by assumption)
        have hcut40 := cut_mid (P := Try.prog) 22 23 .i64 .i64 Try.underlying22 hi040 1 hsz40 Ao41 x7_1.length co41 x10_1 (wrap64 ((wrap64 (x10_1 + (y833.length : Int))) + 1)) q040 ql40 q40 hroom40
        have hr40 := Kd.C_mid (lo := (x10_1 : Int).toNat) (hi := ((wrap64 ((wrap64 (x10_1 + (y833.length : Int))) + 1)) : Int).toNat) (c := co41) hC40 (by omega) (by omega) hroom40
        obtain ⟨A40, hA40⟩ : ∃ A1, A1 = (if co41 = (x10_1 : Int).toNat then Ao41 else (Ao41 : Option Addr).map (·.add ((x10_1 : Int).toNat * 1))) := ⟨_, rfl⟩
        obtain ⟨c40, hc40⟩ : ∃ c1, c1 = co41 - (x10_1 : Int).toNat := ⟨_, rfl⟩
        have hy40 : y847.length = ((wrap64 ((wrap64 (x10_1 + (y833.length : Int))) + 1)) : Int).toNat - (x10_1 : Int).toNat := (by rw [Ny847.out, List.length_drop, List.length_take] <;> omega)
        rw [show ((x7_1).take ((wrap64 ((wrap64 (x10_1 + (y833.length : Int))) + 1)) : Int).toNat).drop (x10_1 : Int).toNat = y847 from Ny847.out.symm] at hr40
        replace hr40 : Kd.C (Kd.int .u32) _ A40 y847.length y847 := (by rw [hA40]; exact hr40)
        rw [← hy40, ← hA40, ← hc40] at hcut40
        have HR850 := Aside0.mk hr40
        have HC850 := Aside0.mk (show y847.length ≤ c40 from by rw [hy40, hc40]; exact Nat.sub_le_sub_right (Nat.le_trans (by omega) hroom40) _)
        clear hr40 hC40 hroom40 hi040 hsz40 hc40
        have KY40 := Aside0.mk hy40
        have KA40 := Aside0.mk hA40
        clear hy40 hA40
        have KL40 := Aside0.mk (show ((wrap64 ((wrap64 (x10_1 + (y833.length : Int))) + 1)) : Int).toNat ≤ x7_1.length from by omega)
        have KM40 := Aside0.mk (show (x10_1 : Int).toNat ≤ ((wrap64 ((wrap64 (x10_1 + (y833.length : Int))) + 1)) : Int).toNat from by omega)
        replace q40 := eq_true q40
        go_wp2_with (first | ((with_reducible refine gate_callee (f := 64) rfl ?_); refine goesL_ (some 53) rfl rfl Try.func64 (by kernel_rfl) rfl #[.slice A40 y847.length c40, .slice Ao18 y833.length co18] rfl (by (try simp only [List.map_toArray, List.map_cons, List.map_nil]); first | done | rfl | (simp only [List.length_drop, List.length_take]; rfl)) ?_; (with_reducible refine (quot_guess.calls k1 _ _ y847 _ _ y833 t851 _ ?side1 ?side2 ?side3 ?side4 A26.out).mono ?_); (case side1 => repeat (first | exact (by repeat (first | (with_reducible exact HR850.out) | (with_reducible refine Kd.C_alloc ?_ _) | (with_reducible refine Kd.C_drewN ?_ _) | (with_reducible refine Kd.C_drew ?_) | exact HR850.out)) | (with_reducible refine Kd.C_alloc ?_ _) | (with_reducible refine Kd.C_drewN ?_ _) | (with_reducible refine Kd.C_drew ?_))); (case side2 => exact HC850.out); (case side3 => repeat (first | exact (HvC.out _ _ HV.out) | (with_reducible refine Kd.C_alloc ?_ _) | (with_reducible refine Kd.C_drewN ?_ _) | (with_reducible refine Kd.C_drew ?_))); (case side4 => exact HC836.out); rintro e w' ⟨rfl, ⟨nd, rfl⟩⟩; refine ⟨_, rfl, ?_⟩; (try (rw [drewN_self wr]; generalize hq_ : World.drewN wr _ = wr; have nV_ : Aside0 (Kd.R (Kd.int .u32) 23 wr w.heap.size (fun k_ => some k_ ≠ (.slice Ao41 x7_1.length co41 : Value).ownBlock ∧ some k_ ≠ (.slice Ao21 x9_1.length co21 : Value).ownBlock) (.slice Ao18 t830.length co18) t830) := ⟨by rw [← hq_]; exact Kd.R_drewN HV.out _⟩; clear HV; have HV := nV_; clear nV_; have n0_ : Aside0 (Kd.R (Kd.int .u32) 23 wr w.heap.size (fun k_ => some k_ ≠ (.slice Ao21 x9_1.length co21 : Value).ownBlock) (.slice Ao41 x7_1.length co41) x7_1) := ⟨by rw [← hq_]; exact (by (with_reducible repeat (first | apply Kd.R_alloc | apply Kd.R_drewN | apply Kd.R_drew)); exact HO_7.out)⟩; have n1_ : Aside0 (Kd.R (Kd.int .u32) 23 wr w.heap.size (fun k_ => some k_ ≠ (.slice Ao41 x7_1.length co41 : Value).ownBlock) (.slice Ao21 x9_1.length co21) x9_1) := ⟨by rw [← hq_]; exact (by (with_reducible repeat (first | apply Kd.R_alloc | apply Kd.R_drewN | apply Kd.R_drew)); exact HO_9.out)⟩; have n2_ : Aside0 (Below w.heap.size w wr) := ⟨by rw [← hq_]; exact (by repeat (first | (with_reducible first | exact HB.out | apply below_alloc | apply pw_below_drewN | apply below_drew1) | exact HB.out))⟩; have n3_ : Aside0 (Kd.C (Kd.int .u32) wr A40 y847.length y847) := ⟨by rw [← hq_]; exact (by repeat (first | (with_reducible exact HR850.out) | (with_reducible refine Kd.C_alloc ?_ _) | (with_reducible refine Kd.C_drewN ?_ _) | (with_reducible refine Kd.C_drew ?_) | exact HR850.out))⟩; clear HO_7 HO_9 HB HR850 hq_; have HO_7 := n0_; have HO_9 := n1_; have HB := n2_; have HR850 := n3_; clear n0_ n1_ n2_ n3_))) | ((with_reducible refine gate_callee (f := 65) rfl ?_); refine goesL_ (some 57) rfl rfl Try.func65 (by kernel_rfl) rfl #[.slice A40 y847.length c40, .slice Ao18 y833.length co18, .int .u64 t851] rfl (by (try simp only [List.map_toArray, List.map_cons, List.map_nil]); first | done | rfl | (simp only [List.length_drop, List.length_take]; rfl)) ?_; (with_reducible refine (quot_less.callsAt k1 (fun k_ => some k_ = (.slice Ao41 x7_1.length co41 : Value).ownBlock) Ao41 x7_1.length co41 x7_1 A40 c40 y847 x10_1 _ _ y833 t851 false t853 w _ ?side1 ?side2 ?side3 ?side4 KA40.out Ny847.out KL40.out (quot_guess.len_ A26.out) HC850.out A27.out).mono ?_); (case side1 => repeat (first | (with_reducible first | exact HB.out | apply below_alloc | apply pw_below_drewN | apply below_drew1) | exact HB.out)); (case side2 => exact Kd.R_tight rfl HO_7.out); (case side3 => exact fun W_ hk_ => HvC.out _ _ (Kd.R_keptB HV.out hk_ (fun k_ hq_ hs_ => hq_.1 hs_))); (case side4 => exact HC836.out); rintro e w42 ⟨rfl, hy0, hb, hkp⟩; refine ⟨_, rfl, ?_⟩; have n0_ := Aside0.mk (Kd.R_reok rfl hy0 (fun k_ e_ => HO_7.out.1 k_ e_)); have n1_ := Aside0.mk (Kd.R_mono (ok' := fun k_ => some k_ ≠ (.slice Ao41 x7_1.length co41 : Value).ownBlock) (Kd.R_keptB (HO_9.out) hkp (fun k_ hk_ hs_ => (hk_) hs_)) (fun k_ hk_ => hk_.1)); have nV_ := Aside0.mk (show Kd.R (Kd.int .u32) 23 _ w.heap.size (fun k_ => some k_ ≠ (.slice Ao41 x7_1.length co41 : Value).ownBlock ∧ some k_ ≠ (.slice Ao21 x9_1.length co21 : Value).ownBlock) (.slice Ao18 t830.length co18) t830 from Kd.R_mono (Kd.R_keptB (HV.out) hkp (fun k_ hk_ hs_ => hk_.1 hs_)) (fun k_ hk_ => hk_.1)); clear HV; have HV := nV_; clear nV_; have n2_ := Aside0.mk (hb); clear HO_7; clear HO_9; clear HB; have HO_7 := n0_; have HO_9 := n1_; have HB := n2_; clear n0_ n1_ n2_; have p39 : 0 ≤ (x10_1 : Int) := of_decide_eq_true (by assumption); have q39 : (x10_1 : Int) < ((x9_1.length : Int) : Int) := of_decide_eq_true (by assumption); obtain ⟨go39, co39, eo39, gb39, gl39, cl39, HG39⟩ := Kd.R_form HO_9.out (by omega); (first | cases eo39 | (injection eo39 with ea_ en_ ec_; (first | subst ea_ | (injection ea_ with ea_; subst ea_)); subst ec_; clear en_)); have GB39 := Aside0.mk gb39; have GG39 := Aside0.mk HG39; clear gb39 gl39 HG39; obtain ⟨hx39_0, hf39_0⟩ := Kd.R_celln 0 HO_9.out (x10_1 : Int) p39 q39; replace p39 := eq_true p39; replace q39 := eq_true q39; obtain ⟨hy43_, hz43_⟩ := Kd.R_celln 0 HO_9.out (x10_1 : Int) (of_decide_eq_true (by assumption)) (of_decide_eq_true (by assumption)); have HP43 := Kd.R_putg HO_9.out (x10_1 : Int) ((t851) % 4294967296)) | ((with_reducible refine gate_store (t := 23) (p := 67) rfl ?_); refine store_event (t := 23) (p := 67) (v := ?vo_w44) (w1 := (w42.setCell ⟨go39, (x10_1 : Int).toNat, none⟩ (.int .u32 ((t851) % 4294967296)))) ?hg ?ho ?hn ?hr ?_; (case ho => rfl); (case hg => rfl); (case hn => rfl); (case hr => first | (go_simp; done) | (go_simp; rfl)); intro w44 hw; have hg : w42.grownBy w44 (some go39) := (by rw [hw]; exact HP43.2); have hp_ : Kd.R (Kd.int .u32) 23 w44 w.heap.size (fun k_ => some k_ ≠ (.slice Ao41 x7_1.length co41 : Value).ownBlock) (.slice (some ⟨go39, 0, none⟩) x9_1.length co21) y856 := (by rw [hw, Ny856.out]; exact HP43.1); clear HP43; have n0_ := Aside0.mk (Kd.R_after (v := (.slice (some ⟨go39, 0, none⟩) x9_1.length co21)) (v1 := (.slice (some ⟨go39, 0, none⟩) x9_1.length co21)) (ok := (fun _ => True)) (by (with_reducible repeat (first | apply Kd.R_alloc | apply Kd.R_drewN | apply Kd.R_drew)); exact Kd.R_mono HO_7.out (fun _ hk => ⟨trivial, hk⟩)) hg (.inl rfl)); have n1_ := Aside0.mk (hp_); have nV_ := Aside0.mk (Kd.R_grown HV.out hg (fun k_ hk_ => hk_.2)); clear HV; have HV := nV_; clear nV_; have n2_ := Aside0.mk ((by rw [hw]; exact below_set (HB.out) GB39.out : Below w.heap.size w w44)); clear HO_7; clear HO_9; clear HB; have HO_7 := n0_; have HO_9 := n1_; have HB := n2_; clear n0_ n1_ n2_; clear hg hw hp_))
        (try simp only [← hl9_1])
        go_roundg k1
        case measure => have := HK1.out; omega
        case rel => exact ⟨(t853), (y856), (wrap64 (x10_1 - 1)), rfl, H', ⟨by have := HK1.out; omega⟩, ⟨by (try simp only [hl9_1]); (with_reducible repeat (first | apply Kd.R_alloc | apply Kd.R_drewN | apply Kd.R_drew)); exact Kd.R_mono HO_7.out (fun _ hk => hk.2)⟩, ⟨by (try simp only [hl9_1]); (with_reducible repeat (first | apply Kd.R_alloc | apply Kd.R_drewN | apply Kd.R_drew)); exact HO_9.out⟩, ⟨by (try simp only [hl9_1]); (with_reducible repeat (first | apply Kd.R_alloc | apply Kd.R_drewN | apply Kd.R_drew)); exact HV.out⟩, ⟨by repeat (first | (with_reducible first | exact HB.out | apply below_alloc | apply pw_below_drewN | apply below_drew1) | exact HB.out)⟩⟩
      subst c28
      have H1 : ((quot_more.at k1 t853 x10_1 y833).bind fun t854 => (if x10_1 < (x9_1.length : Int) then (quot_long.l0 k1 t826 t854 y833 (x9_1.set (x10_1 : Int).toNat ((IntKind.u64.wrap (t851 - 1)) % 4294967296)) (wrap64 (x10_1 - 1))) else (none))) = some (r1, r2) := by rw [if_pos rfl] at H; exact H
      clear H
      have H := H1
      clear H1
      replace H := Option.bind_eq_some_iff.mp H
      obtain ⟨t854, A290, H⟩ := H
      have A29 := Aside0.mk A290
      clear A290
      by_cases c30 : x10_1 < (x9_1.length : Int)
      rotate_left
      · rw [if_neg c30] at H
        exact absurd H (by simp)
      rw [if_pos c30] at H
      have c30b0 : decide (x10_1 < (x9_1.length : Int)) = true := decide_eq_true c30
      (try simp only [hl9_1] at c30b0)
      clear c30
      obtain ⟨y855, hy855⟩ : ∃ y_ : List Int, y_ = (x9_1.set (x10_1 : Int).toNat ((IntKind.u64.wrap (t851 - 1)) % 4294967296)) := ⟨_, rfl⟩
      replace H : (quot_long.l0 k1 t826 t854 y833 y855 (wrap64 (x10_1 - 1))) = some (r1, r2) := by first | (rw [hy855]; with_reducible exact H) | (have H2_ := (Option.bind_some _ _).symm.trans H; rw [hy855]; with_reducible exact H2_) | (have H2_ := (Option.bind_some _ _).symm.trans H; with_reducible exact H2_) | with_reducible exact H | (rw [hy855]; exact H) | exact H
      have Ny855 := Aside0.mk hy855
      clear hy855
      have H' := Aside0.mk H
      clear H
      obtain ⟨Ao33, co33, eo33⟩ := Kd.R_slice HO_7.out
      subst eo33
      have q32 : ((wrap64 ((wrap64 (x10_1 + (y833.length : Int))) + 1)) : Int) ≤ ((x7_1.length : Int) : Int) := of_decide_eq_true (by assumption)
      obtain ⟨i032, hi032, _, hsz32, _⟩ := info_parts info23
      have hroom32 : x7_1.length ≤ co33 := (Kd.R_reads' HO_7.out).2.1
      have hC32 : Kd.C (Kd.int .u32) _ Ao33 x7_1.length x7_1 := (Kd.R_reads' HO_7.out).2.2
      have ql32 : (x10_1 : Int) ≤ ((wrap64 ((wrap64 (x10_1 + (y833.length : Int))) + 1)) : Int) := of_decide_eq_true (by assumption)
      have q032 : (0 : Int) ≤ (x10_1 : Int) := of_decide_eq_true (by assumption)
      have hcut32 := cut_mid (P := Try.prog) 22 23 .i64 .i64 Try.underlying22 hi032 1 hsz32 Ao33 x7_1.length co33 x10_1 (wrap64 ((wrap64 (x10_1 + (y833.length : Int))) + 1)) q032 ql32 q32 hroom32
      have hr32 := Kd.C_mid (lo := (x10_1 : Int).toNat) (hi := ((wrap64 ((wrap64 (x10_1 + (y833.length : Int))) + 1)) : Int).toNat) (c := co33) hC32 (by omega) (by omega) hroom32
      obtain ⟨A32, hA32⟩ : ∃ A1, A1 = (if co33 = (x10_1 : Int).toNat then Ao33 else (Ao33 : Option Addr).map (·.add ((x10_1 : Int).toNat * 1))) := ⟨_, rfl⟩
      obtain ⟨c32, hc32⟩ : ∃ c1, c1 = co33 - (x10_1 : Int).toNat := ⟨_, rfl⟩
      have hy32 : y847.length = ((wrap64 ((wrap64 (x10_1 + (y833.length : Int))) + 1)) : Int).toNat - (x10_1 : Int).toNat := (by rw [Ny847.out, List.length_drop, List.length_take] <;> omega)
      rw [show ((x7_1).take ((wrap64 ((wrap64 (x10_1 + (y833.length : Int))) + 1)) : Int).toNat).drop (x10_1 : Int).toNat = y847 from Ny847.out.symm] at hr32
      replace hr32 : Kd.C (Kd.int .u32) _ A32 y847.length y847 := (by rw [hA32]; exact hr32)
      rw [← hy32, ← hA32, ← hc32] at hcut32
      have HR850 := Aside0.mk hr32
      have HC850 := Aside0.mk (show y847.length ≤ c32 from by rw [hy32, hc32]; exact Nat.sub_le_sub_right (Nat.le_trans (by omega) hroom32) _)
      clear hr32 hC32 hroom32 hi032 hsz32 hc32
      have KY32 := Aside0.mk hy32
      have KA32 := Aside0.mk hA32
      clear hy32 hA32
      have KL32 := Aside0.mk (show ((wrap64 ((wrap64 (x10_1 + (y833.length : Int))) + 1)) : Int).toNat ≤ x7_1.length from by omega)
      have KM32 := Aside0.mk (show (x10_1 : Int).toNat ≤ ((wrap64 ((wrap64 (x10_1 + (y833.length : Int))) + 1)) : Int).toNat from by omega)
      replace q32 := eq_true q32
      go_wp2_with (first | ((with_reducible refine gate_callee (f := 64) rfl ?_); refine goesL_ (some 53) rfl rfl Try.func64 (by kernel_rfl) rfl #[.slice A32 y847.length c32, .slice Ao18 y833.length co18] rfl (by (try simp only [List.map_toArray, List.map_cons, List.map_nil]); first | done | rfl | (simp only [List.length_drop, List.length_take]; rfl)) ?_; (with_reducible refine (quot_guess.calls k1 _ _ y847 _ _ y833 t851 _ ?side1 ?side2 ?side3 ?side4 A26.out).mono ?_); (case side1 => repeat (first | exact (by repeat (first | (with_reducible exact HR850.out) | (with_reducible refine Kd.C_alloc ?_ _) | (with_reducible refine Kd.C_drewN ?_ _) | (with_reducible refine Kd.C_drew ?_) | exact HR850.out)) | (with_reducible refine Kd.C_alloc ?_ _) | (with_reducible refine Kd.C_drewN ?_ _) | (with_reducible refine Kd.C_drew ?_))); (case side2 => exact HC850.out); (case side3 => repeat (first | exact (HvC.out _ _ HV.out) | (with_reducible refine Kd.C_alloc ?_ _) | (with_reducible refine Kd.C_drewN ?_ _) | (with_reducible refine Kd.C_drew ?_))); (case side4 => exact HC836.out); rintro e w' ⟨rfl, ⟨nd, rfl⟩⟩; refine ⟨_, rfl, ?_⟩; (try (rw [drewN_self wr]; generalize hq_ : World.drewN wr _ = wr; have nV_ : Aside0 (Kd.R (Kd.int .u32) 23 wr w.heap.size (fun k_ => some k_ ≠ (.slice Ao33 x7_1.length co33 : Value).ownBlock ∧ some k_ ≠ (.slice Ao21 x9_1.length co21 : Value).ownBlock) (.slice Ao18 t830.length co18) t830) := ⟨by rw [← hq_]; exact Kd.R_drewN HV.out _⟩; clear HV; have HV := nV_; clear nV_; have n0_ : Aside0 (Kd.R (Kd.int .u32) 23 wr w.heap.size (fun k_ => some k_ ≠ (.slice Ao21 x9_1.length co21 : Value).ownBlock) (.slice Ao33 x7_1.length co33) x7_1) := ⟨by rw [← hq_]; exact (by (with_reducible repeat (first | apply Kd.R_alloc | apply Kd.R_drewN | apply Kd.R_drew)); exact HO_7.out)⟩; have n1_ : Aside0 (Kd.R (Kd.int .u32) 23 wr w.heap.size (fun k_ => some k_ ≠ (.slice Ao33 x7_1.length co33 : Value).ownBlock) (.slice Ao21 x9_1.length co21) x9_1) := ⟨by rw [← hq_]; exact (by (with_reducible repeat (first | apply Kd.R_alloc | apply Kd.R_drewN | apply Kd.R_drew)); exact HO_9.out)⟩; have n2_ : Aside0 (Below w.heap.size w wr) := ⟨by rw [← hq_]; exact (by repeat (first | (with_reducible first | exact HB.out | apply below_alloc | apply pw_below_drewN | apply below_drew1) | exact HB.out))⟩; have n3_ : Aside0 (Kd.C (Kd.int .u32) wr A32 y847.length y847) := ⟨by rw [← hq_]; exact (by repeat (first | (with_reducible exact HR850.out) | (with_reducible refine Kd.C_alloc ?_ _) | (with_reducible refine Kd.C_drewN ?_ _) | (with_reducible refine Kd.C_drew ?_) | exact HR850.out))⟩; clear HO_7 HO_9 HB HR850 hq_; have HO_7 := n0_; have HO_9 := n1_; have HB := n2_; have HR850 := n3_; clear n0_ n1_ n2_ n3_))) | ((with_reducible refine gate_callee (f := 65) rfl ?_); refine goesL_ (some 57) rfl rfl Try.func65 (by kernel_rfl) rfl #[.slice A32 y847.length c32, .slice Ao18 y833.length co18, .int .u64 t851] rfl (by (try simp only [List.map_toArray, List.map_cons, List.map_nil]); first | done | rfl | (simp only [List.length_drop, List.length_take]; rfl)) ?_; (with_reducible refine (quot_less.callsAt k1 (fun k_ => some k_ = (.slice Ao33 x7_1.length co33 : Value).ownBlock) Ao33 x7_1.length co33 x7_1 A32 c32 y847 x10_1 _ _ y833 t851 true t853 w _ ?side1 ?side2 ?side3 ?side4 KA32.out Ny847.out KL32.out (quot_guess.len_ A26.out) HC850.out A27.out).mono ?_); (case side1 => repeat (first | (with_reducible first | exact HB.out | apply below_alloc | apply pw_below_drewN | apply below_drew1) | exact HB.out)); (case side2 => exact Kd.R_tight rfl HO_7.out); (case side3 => exact fun W_ hk_ => HvC.out _ _ (Kd.R_keptB HV.out hk_ (fun k_ hq_ hs_ => hq_.1 hs_))); (case side4 => exact HC836.out); rintro e w34 ⟨rfl, hy0, hb, hkp⟩; refine ⟨_, rfl, ?_⟩; have n0_ := Aside0.mk (Kd.R_reok rfl hy0 (fun k_ e_ => HO_7.out.1 k_ e_)); have n1_ := Aside0.mk (Kd.R_mono (ok' := fun k_ => some k_ ≠ (.slice Ao33 x7_1.length co33 : Value).ownBlock) (Kd.R_keptB (HO_9.out) hkp (fun k_ hk_ hs_ => (hk_) hs_)) (fun k_ hk_ => hk_.1)); have nV_ := Aside0.mk (show Kd.R (Kd.int .u32) 23 _ w.heap.size (fun k_ => some k_ ≠ (.slice Ao33 x7_1.length co33 : Value).ownBlock ∧ some k_ ≠ (.slice Ao21 x9_1.length co21 : Value).ownBlock) (.slice Ao18 t830.length co18) t830 from Kd.R_mono (Kd.R_keptB (HV.out) hkp (fun k_ hk_ hs_ => hk_.1 hs_)) (fun k_ hk_ => hk_.1)); clear HV; have HV := nV_; clear nV_; have n2_ := Aside0.mk (hb); clear HO_7; clear HO_9; clear HB; have HO_7 := n0_; have HO_9 := n1_; have HB := n2_; clear n0_ n1_ n2_) | ((with_reducible refine gate_callee (f := 66) rfl ?_); refine goesL_ (some 62) rfl rfl Try.func66 (by kernel_rfl) rfl #[.slice A32 y847.length c32, .slice Ao18 y833.length co18] rfl (by (try simp only [List.map_toArray, List.map_cons, List.map_nil]); first | done | rfl | (simp only [List.length_drop, List.length_take]; rfl)) ?_; (with_reducible refine (quot_more.callsAt k1 (fun k_ => some k_ = (.slice Ao33 x7_1.length co33 : Value).ownBlock) Ao33 x7_1.length co33 t853 A32 c32 _ x10_1 _ _ y833 t854 w _ ?side1 ?side2 ?side3 ?side4 KA32.out KY32.out KL32.out (quot_guess.len_ A26.out) HC850.out A29.out).mono ?_); (case side1 => repeat (first | (with_reducible first | exact HB.out | apply below_alloc | apply pw_below_drewN | apply below_drew1) | exact HB.out)); (case side2 => exact Kd.R_tight rfl HO_7.out); (case side3 => exact fun W_ hk_ => HvC.out _ _ (Kd.R_keptB HV.out hk_ (fun k_ hq_ hs_ => hq_.1 hs_))); (case side4 => exact HC836.out); rintro e w35 ⟨rfl, hy0, hb, hkp⟩; refine ⟨_, rfl, ?_⟩; have n0_ := Aside0.mk (Kd.R_reok rfl hy0 (fun k_ e_ => HO_7.out.1 k_ e_)); have n1_ := Aside0.mk (Kd.R_mono (ok' := fun k_ => some k_ ≠ (.slice Ao33 x7_1.length co33 : Value).ownBlock) (Kd.R_keptB (HO_9.out) hkp (fun k_ hk_ hs_ => (hk_) hs_)) (fun k_ hk_ => hk_.1)); have nV_ := Aside0.mk (show Kd.R (Kd.int .u32) 23 _ w.heap.size (fun k_ => some k_ ≠ (.slice Ao33 x7_1.length co33 : Value).ownBlock ∧ some k_ ≠ (.slice Ao21 x9_1.length co21 : Value).ownBlock) (.slice Ao18 t830.length co18) t830 from Kd.R_mono (Kd.R_keptB (HV.out) hkp (fun k_ hk_ hs_ => hk_.1 hs_)) (fun k_ hk_ => hk_.1)); clear HV; have HV := nV_; clear nV_; have n2_ := Aside0.mk (hb); clear HO_7; clear HO_9; clear HB; have HO_7 := n0_; have HO_9 := n1_; have HB := n2_; clear n0_ n1_ n2_; have p31 : 0 ≤ (x10_1 : Int) := of_decide_eq_true (by assumption); have q31 : (x10_1 : Int) < ((x9_1.length : Int) : Int) := of_decide_eq_true (by assumption); obtain ⟨go31, co31, eo31, gb31, gl31, cl31, HG31⟩ := Kd.R_form HO_9.out (by omega); (first | cases eo31 | (injection eo31 with ea_ en_ ec_; (first | subst ea_ | (injection ea_ with ea_; subst ea_)); subst ec_; clear en_)); have GB31 := Aside0.mk gb31; have GG31 := Aside0.mk HG31; clear gb31 gl31 HG31; obtain ⟨hx31_0, hf31_0⟩ := Kd.R_celln 0 HO_9.out (x10_1 : Int) p31 q31; replace p31 := eq_true p31; replace q31 := eq_true q31; obtain ⟨hy36_, hz36_⟩ := Kd.R_celln 0 HO_9.out (x10_1 : Int) (of_decide_eq_true (by assumption)) (of_decide_eq_true (by assumption)); have HP36 := Kd.R_putg HO_9.out (x10_1 : Int) ((IntKind.u64.wrap (t851 - 1)) % 4294967296)) | ((with_reducible refine gate_store (t := 23) (p := 67) rfl ?_); refine store_event (t := 23) (p := 67) (v := ?vo_w37) (w1 := (w35.setCell ⟨go31, (x10_1 : Int).toNat, none⟩ (.int .u32 ((IntKind.u64.wrap (t851 - 1)) % 4294967296)))) ?hg ?ho ?hn ?hr ?_; (case ho => rfl); (case hg => rfl); (case hn => rfl); (case hr => first | (go_simp; done) | (go_simp; rfl)); intro w37 hw; have hg : w35.grownBy w37 (some go31) := (by rw [hw]; exact HP36.2); have hp_ : Kd.R (Kd.int .u32) 23 w37 w.heap.size (fun k_ => some k_ ≠ (.slice Ao33 x7_1.length co33 : Value).ownBlock) (.slice (some ⟨go31, 0, none⟩) x9_1.length co21) y855 := (by rw [hw, Ny855.out]; exact HP36.1); clear HP36; have n0_ := Aside0.mk (Kd.R_after (v := (.slice (some ⟨go31, 0, none⟩) x9_1.length co21)) (v1 := (.slice (some ⟨go31, 0, none⟩) x9_1.length co21)) (ok := (fun _ => True)) (by (with_reducible repeat (first | apply Kd.R_alloc | apply Kd.R_drewN | apply Kd.R_drew)); exact Kd.R_mono HO_7.out (fun _ hk => ⟨trivial, hk⟩)) hg (.inl rfl)); have n1_ := Aside0.mk (hp_); have nV_ := Aside0.mk (Kd.R_grown HV.out hg (fun k_ hk_ => hk_.2)); clear HV; have HV := nV_; clear nV_; have n2_ := Aside0.mk ((by rw [hw]; exact below_set (HB.out) GB31.out : Below w.heap.size w w37)); clear HO_7; clear HO_9; clear HB; have HO_7 := n0_; have HO_9 := n1_; have HB := n2_; clear n0_ n1_ n2_; clear hg hw hp_))
      (try simp only [← hl9_1])
      go_roundg k1
      case measure => have := HK1.out; omega
      case rel => exact ⟨(t854), (y855), (wrap64 (x10_1 - 1)), rfl, H', ⟨by have := HK1.out; omega⟩, ⟨by (try simp only [hl9_1]); (with_reducible repeat (first | apply Kd.R_alloc | apply Kd.R_drewN | apply Kd.R_drew)); exact Kd.R_mono HO_7.out (fun _ hk => hk.2)⟩, ⟨by (try simp only [hl9_1]); (with_reducible repeat (first | apply Kd.R_alloc | apply Kd.R_drewN | apply Kd.R_drew)); exact HO_9.out⟩, ⟨by (try simp only [hl9_1]); (with_reducible repeat (first | apply Kd.R_alloc | apply Kd.R_drewN | apply Kd.R_drew)); exact HV.out⟩, ⟨by repeat (first | (with_reducible first | exact HB.out | apply below_alloc | apply pw_below_drewN | apply below_drew1) | exact HB.out)⟩⟩
end Go.Proofs.Ytcepdndhkidehaa.PA
end
section
namespace Go.Proofs.Ytcepdndhkidehaa.PA
open Go.RowKit Go.Proofs.YtcepdndhkidehaaW.PrintWords Go.Proofs.YtcepdndhkidehaaW.PrintLast Go.Proofs.YtcepdndhkidehaaW.PrintMore
attribute [local go_sem] max2_int min2_int max_two min_two max_three min_three max_four min_four   -- for this text's walks alone
set_option linter.unusedVariables false
set_option linter.unusedSimpArgs false

/-! ### quot_Div: function 42 -/
def quot_Div.f (k : Nat) (l0_0 : List Int) (l1_0 : List Int) : Option (List Int × List Int × Bool) := (nat_Nat_Limbs.f l0_0).bind fun t861 => ((nat_Nat_Limbs.f l1_0).bind fun t864 => (if (t864.length : Int) = 0 then (some (([] : List Int), ([] : List Int), false)) else (if (t861.length : Int) < (t864.length : Int) then (some (([] : List Int), l0_0, true)) else (if (t864.length : Int) = 1 then (if 0 < (t864.length : Int) then ((quot_small.f k t861 (rd t864 0)).bind fun bt868 => ((nat_Made.f k bt868.1).bind fun t872 => ((nat_Of.f k (IntKind.u64.wrap (bt868.2))).bind fun t875 => (some (t872, t875, true))))) else (none)) else ((quot_long.f k t861 t864).bind fun bt878 => ((nat_Made.f k bt878.1).bind fun t884 => ((nat_Made.f k bt878.2).bind fun t887 => (some (t884, t887, true)))))))))
theorem quot_Div.mono : ∀ a0 a1 k, LeO (quot_Div.f k a0 a1) (quot_Div.f (k + 1) a0 a1) := by
  intro a0 a1 k
  unfold quot_Div.f
  repeat' first
      | (with_reducible exact nat_Made.mono _ _)
      | (with_reducible exact nat_Of.mono _ _)
      | (with_reducible exact quot_long.mono _ _ _)
      | (with_reducible exact quot_small.mono _ _ _)
      | (with_reducible exact LeO.refl _)
      | (with_reducible exact LeO.none _)
      | (with_reducible refine LeO.ite ?_ ?_)
      | (with_reducible refine LeO.bind ?_ (fun _ => ?_))
set_option maxHeartbeats 8000000 in
set_option maxRecDepth 100000 in
theorem quot_Div.calls (k : Nat) (P0_0_ : Nat → Prop) (u9000_ : Value) (l0_0 : List Int) (A1_0 : Option Addr) (c1_0 : Nat) (l1_0 : List Int) (r1 : List Int) (r2 : List Int) (r3 : Bool) (w0 w : World) (hB : Below w0.heap.size w0 w) (ho0_0 : Kd.R (Kd.int .u32) 23 w w0.heap.size P0_0_ u9000_ l0_0) (hr1_0 : ∀ W_, Kept w W_ (fun k_ => P0_0_ k_) → Kd.C (Kd.int .u32) W_ A1_0 l1_0.length l1_0) (hc1_0 : l1_0.length ≤ c1_0) (h : quot_Div.f k l0_0 l1_0 = some (r1, r2, r3)) :
    Calls Try.prog 42 #[.agg #[u9000_], .agg #[.slice A1_0 l1_0.length c1_0]] w fun e w' => ∃ v0_ v1_ : Value, e = .returned (.tuple #[.agg #[v0_], .agg #[v1_], .bool r3]) ∧ Kd.R (Kd.int .u32) 23 w' w0.heap.size (fun k_ => (P0_0_ k_ ∨ w.heap.size ≤ k_) ∧ some k_ ≠ (v1_ : Value).ownBlock) v0_ r1 ∧ Kd.R (Kd.int .u32) 23 w' w0.heap.size (fun k_ => (P0_0_ k_ ∨ w.heap.size ≤ k_) ∧ some k_ ≠ (v0_ : Value).ownBlock) v1_ r2 ∧ Below w0.heap.size w0 w' ∧ Kept w w' (fun k_ => P0_0_ k_) := by
  have hu25 := Try.underlying25
  have HO0_0 := Aside0.mk (show Kd.R (Kd.int .u32) 23 w w0.heap.size (fun k_ => (P0_0_ k_ ∨ w.heap.size ≤ k_)) u9000_ l0_0 from Kd.R_mono ho0_0 (fun k_ hk => (.inl hk)))
  have HR1_0 := Aside0.mk hr1_0
  have HC1_0 := Aside0.mk hc1_0
  clear hr1_0 hc1_0
  have HK := Aside0.mk (Kept.refl w (fun k_ => P0_0_ k_))
  have HW0 := Aside0.mk hB.size
  have HB := Aside0.mk hB
  clear hB
  have H : ((nat_Nat_Limbs.f l0_0).bind fun t861 => ((nat_Nat_Limbs.f l1_0).bind fun t864 => (if (t864.length : Int) = 0 then (some (([] : List Int), ([] : List Int), false)) else (if (t861.length : Int) < (t864.length : Int) then (some (([] : List Int), l0_0, true)) else (if (t864.length : Int) = 1 then (if 0 < (t864.length : Int) then ((quot_small.f k t861 (rd t864 0)).bind fun bt868 => ((nat_Made.f k bt868.1).bind fun t872 => ((nat_Of.f k (IntKind.u64.wrap (bt868.2))).bind fun t875 => (some (t872, t875, true))))) else (none)) else ((quot_long.f k t861 t864).bind fun bt878 => ((nat_Made.f k bt878.1).bind fun t884 => ((nat_Made.f k bt878.2).bind fun t887 => (some (t884, t887, true)))))))))) = some (r1, r2, r3) := h
  clear h
  replace H := Option.bind_eq_some_iff.mp H
  obtain ⟨t861, A30, H⟩ := H
  have A3 := Aside0.mk A30
  clear A30
  replace H := Option.bind_eq_some_iff.mp H
  obtain ⟨t864, A40, H⟩ := H
  have A4 := Aside0.mk A40
  clear A40
  by_cases c5 : (t864.length : Int) = 0
  · rw [if_pos c5] at H
    have c5b0 : ((t864.length : Int) == 0) = true := beq_iff_eq.mpr c5
    have c5b1 : ((t864.length : Int) != 0) = false := bne_eq_false_iff_eq.mpr c5
    clear c5
    simp only [Option.some.injEq, Prod.mk.injEq] at H
    obtain ⟨rfl, rfl, rfl⟩ := H
    obtain ⟨Ao6, co6, eo6⟩ := Kd.R_slice HO0_0.out
    subst eo6
    go_enter Try.func42, Try.ntmps42
    try go_wp2_with (first | ((with_reducible refine gate_dst (N := 2) rfl ?_); refine box_event ?hg (N := 2) ?hd (cs := #[.slice Ao6 l0_0.length co6]) (t := 25) ?hr ?_; (case hd => rfl); (case hg => rfl); (case hr => first | (go_simp; done) | (go_simp; rfl)); intro gb857 hg w7 hbox hb; replace HO0_0 := Aside0.mk (Kd.R_below HO0_0.out hb); have BK857 := Aside0.mk (hbox); have GW857 := Aside0.mk ((by rw [hg]; exact (by first | exact HK.out.1 | exact (show Kept w _ (fun k_ => P0_0_ k_) from by repeat (first | (with_reducible first | exact HK.out | apply Kept.alloc | apply Kept.drewN | apply Kept.drew) | exact HK.out)).1) : w.heap.size ≤ gb857)); replace HK := Aside0.mk (Kept.below (S := (fun k_ => P0_0_ k_)) (by repeat (first | (with_reducible first | exact HK.out | apply Kept.alloc | apply Kept.drewN | apply Kept.drew) | exact HK.out)) hb); have GE857 := Aside0.mk ((by rw [hg]; exact (below_size (by repeat (first | (with_reducible first | exact HB.out | apply below_alloc | apply pw_below_drewN | apply below_drew1) | exact HB.out))) : w0.heap.size ≤ gb857)); replace HB := Aside0.mk (below_step (by repeat (first | (with_reducible first | exact HB.out | apply below_alloc | apply pw_below_drewN | apply below_drew1) | exact HB.out)) hb); clear hb hbox hg) | ((with_reducible refine gate_dst (N := 3) rfl ?_); refine box_event ?hg (N := 3) ?hd (cs := #[.slice A1_0 l1_0.length c1_0]) (t := 25) ?hr ?_; (case hd => rfl); (case hg => rfl); (case hr => first | (go_simp; done) | (go_simp; rfl)); intro gb858 hg w8 hbox hb; replace HO0_0 := Aside0.mk (Kd.R_below HO0_0.out hb); have BK858 := Aside0.mk (hbox); have GW858 := Aside0.mk ((by rw [hg]; exact (by first | exact HK.out.1 | exact (show Kept w _ (fun k_ => P0_0_ k_) from by repeat (first | (with_reducible first | exact HK.out | apply Kept.alloc | apply Kept.drewN | apply Kept.drew | refine Kept.setCell ?_ (.inr GW857.out) _) | exact HK.out)).1) : w.heap.size ≤ gb858)); replace HK := Aside0.mk (Kept.below (S := (fun k_ => P0_0_ k_)) (by repeat (first | (with_reducible first | exact HK.out | apply Kept.alloc | apply Kept.drewN | apply Kept.drew | refine Kept.setCell ?_ (.inr GW857.out) _) | exact HK.out)) hb); have GE858 := Aside0.mk ((by rw [hg]; exact (below_size (by repeat (first | (with_reducible first | exact HB.out | apply below_alloc | apply pw_below_drewN | apply below_drew1 | refine below_set ?_ GE857.out) | exact HB.out))) : w0.heap.size ≤ gb858)); replace HB := Aside0.mk (below_step (by repeat (first | (with_reducible first | exact HB.out | apply below_alloc | apply pw_below_drewN | apply below_drew1 | refine below_set ?_ GE857.out) | exact HB.out)) hb); have NB857_858 := Aside0.mk ((by rw [hg]; exact Nat.ne_of_lt (blk_lt (g := gb857) (o := .cells #[.slice Ao6 l0_0.length co6] 25 (0, 0)) BK857.out) : gb857 ≠ gb858)); have NB858_857 := Aside0.mk ((by rw [hg]; exact Nat.ne_of_gt (blk_lt (g := gb857) (o := .cells #[.slice Ao6 l0_0.length co6] 25 (0, 0)) BK857.out) : gb858 ≠ gb857)); replace BK857 := Aside0.mk (blk_below (g := gb857) (o := .cells #[.slice Ao6 l0_0.length co6] 25 (0, 0)) BK857.out hb); clear hb hbox hg) | ((with_reducible refine gate_dst (N := 4) rfl ?_); refine box_event ?hg (N := 4) ?hd (cs := #[.slice none 0 0]) (t := 25) ?hr ?_; (case hd => rfl); (case hg => rfl); (case hr => first | (go_simp; done) | (go_simp; rfl)); intro gb859 hg w9 hbox hb; replace HO0_0 := Aside0.mk (Kd.R_below HO0_0.out hb); have BK859 := Aside0.mk (hbox); have GW859 := Aside0.mk ((by rw [hg]; exact (by first | exact HK.out.1 | exact (show Kept w _ (fun k_ => P0_0_ k_) from by repeat (first | (with_reducible first | exact HK.out | apply Kept.alloc | apply Kept.drewN | apply Kept.drew | refine Kept.setCell ?_ (.inr GW857.out) _ | refine Kept.setCell ?_ (.inr GW858.out) _) | exact HK.out)).1) : w.heap.size ≤ gb859)); replace HK := Aside0.mk (Kept.below (S := (fun k_ => P0_0_ k_)) (by repeat (first | (with_reducible first | exact HK.out | apply Kept.alloc | apply Kept.drewN | apply Kept.drew | refine Kept.setCell ?_ (.inr GW857.out) _ | refine Kept.setCell ?_ (.inr GW858.out) _) | exact HK.out)) hb); have GE859 := Aside0.mk ((by rw [hg]; exact (below_size (by repeat (first | (with_reducible first | exact HB.out | apply below_alloc | apply pw_below_drewN | apply below_drew1 | refine below_set ?_ GE857.out | refine below_set ?_ GE858.out) | exact HB.out))) : w0.heap.size ≤ gb859)); replace HB := Aside0.mk (below_step (by repeat (first | (with_reducible first | exact HB.out | apply below_alloc | apply pw_below_drewN | apply below_drew1 | refine below_set ?_ GE857.out | refine below_set ?_ GE858.out) | exact HB.out)) hb); have NB857_859 := Aside0.mk ((by rw [hg]; exact Nat.ne_of_lt (blk_lt (g := gb857) (o := .cells #[.slice Ao6 l0_0.length co6] 25 (0, 0)) BK857.out) : gb857 ≠ gb859)); have NB859_857 := Aside0.mk ((by rw [hg]; exact Nat.ne_of_gt (blk_lt (g := gb857) (o := .cells #[.slice Ao6 l0_0.length co6] 25 (0, 0)) BK857.out) : gb859 ≠ gb857)); replace BK857 := Aside0.mk (blk_below (g := gb857) (o := .cells #[.slice Ao6 l0_0.length co6] 25 (0, 0)) BK857.out hb); have NB858_859 := Aside0.mk ((by rw [hg]; exact Nat.ne_of_lt (blk_lt (g := gb858) (o := .cells #[.slice A1_0 l1_0.length c1_0] 25 (0, 0)) BK858.out) : gb858 ≠ gb859)); have NB859_858 := Aside0.mk ((by rw [hg]; exact Nat.ne_of_gt (blk_lt (g := gb858) (o := .cells #[.slice A1_0 l1_0.length c1_0] 25 (0, 0)) BK858.out) : gb859 ≠ gb858)); replace BK858 := Aside0.mk (blk_below (g := gb858) (o := .cells #[.slice A1_0 l1_0.length c1_0] 25 (0, 0)) BK858.out hb); clear hb hbox hg) | ((with_reducible refine gate_dst (N := 5) rfl ?_); refine box_event ?hg (N := 5) ?hd (cs := #[.slice none 0 0]) (t := 25) ?hr ?_; (case hd => rfl); (case hg => rfl); (case hr => first | (go_simp; done) | (go_simp; rfl)); intro gb860 hg w10 hbox hb; replace HO0_0 := Aside0.mk (Kd.R_below HO0_0.out hb); have BK860 := Aside0.mk (hbox); have GW860 := Aside0.mk ((by rw [hg]; exact (by first | exact HK.out.1 | exact (show Kept w _ (fun k_ => P0_0_ k_) from by repeat (first | (with_reducible first | exact HK.out | apply Kept.alloc | apply Kept.drewN | apply Kept.drew | refine Kept.setCell ?_ (.inr GW857.out) _ | refine Kept.setCell ?_ (.inr GW858.out) _ | refine Kept.setCell ?_ (.inr GW859.out) _) | exact HK.out)).1) : w.heap.size ≤ gb860)); replace HK := Aside0.mk (Kept.below (S := (fun k_ => P0_0_ k_)) (by repeat (first | (with_reducible first | exact HK.out | apply Kept.alloc | apply Kept.drewN | apply Kept.drew | refine Kept.setCell ?_ (.inr GW857.out) _ | refine Kept.setCell ?_ (.inr GW858.out) _ | refine Kept.setCell ?_ (.inr GW859.out) _) | exact HK.out)) hb); have GE860 := Aside0.mk ((by rw [hg]; exact (below_size (by repeat (first | (with_reducible first | exact HB.out | apply below_alloc | apply pw_below_drewN | apply below_drew1 | refine below_set ?_ GE857.out | refine below_set ?_ GE858.out | refine below_set ?_ GE859.out) | exact HB.out))) : w0.heap.size ≤ gb860)); replace HB := Aside0.mk (below_step (by repeat (first | (with_reducible first | exact HB.out | apply below_alloc | apply pw_below_drewN | apply below_drew1 | refine below_set ?_ GE857.out | refine below_set ?_ GE858.out | refine below_set ?_ GE859.out) | exact HB.out)) hb); have NB857_860 := Aside0.mk ((by rw [hg]; exact Nat.ne_of_lt (blk_lt (g := gb857) (o := .cells #[.slice Ao6 l0_0.length co6] 25 (0, 0)) BK857.out) : gb857 ≠ gb860)); have NB860_857 := Aside0.mk ((by rw [hg]; exact Nat.ne_of_gt (blk_lt (g := gb857) (o := .cells #[.slice Ao6 l0_0.length co6] 25 (0, 0)) BK857.out) : gb860 ≠ gb857)); replace BK857 := Aside0.mk (blk_below (g := gb857) (o := .cells #[.slice Ao6 l0_0.length co6] 25 (0, 0)) BK857.out hb); have NB858_860 := Aside0.mk ((by rw [hg]; exact Nat.ne_of_lt (blk_lt (g := gb858) (o := .cells #[.slice A1_0 l1_0.length c1_0] 25 (0, 0)) BK858.out) : gb858 ≠ gb860)); have NB860_858 := Aside0.mk ((by rw [hg]; exact Nat.ne_of_gt (blk_lt (g := gb858) (o := .cells #[.slice A1_0 l1_0.length c1_0] 25 (0, 0)) BK858.out) : gb860 ≠ gb858)); replace BK858 := Aside0.mk (blk_below (g := gb858) (o := .cells #[.slice A1_0 l1_0.length c1_0] 25 (0, 0)) BK858.out hb); have NB859_860 := Aside0.mk ((by rw [hg]; exact Nat.ne_of_lt (blk_lt (g := gb859) (o := .cells #[.slice none 0 0] 25 (0, 0)) BK859.out) : gb859 ≠ gb860)); have NB860_859 := Aside0.mk ((by rw [hg]; exact Nat.ne_of_gt (blk_lt (g := gb859) (o := .cells #[.slice none 0 0] 25 (0, 0)) BK859.out) : gb860 ≠ gb859)); replace BK859 := Aside0.mk (blk_below (g := gb859) (o := .cells #[.slice none 0 0] 25 (0, 0)) BK859.out hb); clear hb hbox hg))
    replace HO0_0 := Aside0.mk (Kd.R_drew HO0_0.out)
    replace BK857 := Aside0.mk (blk_drew BK857.out)
    replace BK858 := Aside0.mk (blk_drew BK858.out)
    replace BK859 := Aside0.mk (blk_drew BK859.out)
    replace BK860 := Aside0.mk (blk_drew BK860.out)
    replace HK := Aside0.mk (Kept.drew HK.out)
    replace HB := Aside0.mk (below_drew1 HB.out)
    refine start_ (n := 6) (S := fun w' => w'.cell? ⟨gb857, 0, none⟩ = some (.slice Ao6 l0_0.length co6) ∧ w'.cell? ⟨gb858, 0, none⟩ = some (.slice A1_0 l1_0.length c1_0)) (ds := []) #[false, false, false, false, false, false] (by kernel_rfl) rfl rfl ⟨(blk_cell BK857.out 0).trans rfl, (blk_cell BK858.out 0).trans rfl⟩ (fun hHeld => ?_)
    generalize w10.drew = w11 at HO0_0 BK857 BK858 BK859 BK860 HK HB hHeld ⊢
    refine take_ (i := 0) (N := some 13) (v := ?_) (a' := ?_) #[true, false, false, false, false, false] rfl rfl (by kernel_rfl) (fun _ _ _ h => h) (Or.inl ⟨by rfl, ?_⟩) hHeld ?_ ?_
    rotate_left
    · rintro w' ⟨s0, s1⟩
      go_simp
      with_reducible rfl
    rotate_left
    · simp only [Act.put, List.setIfInBounds_toArray, List.set_cons_zero, List.set_cons_succ, i64_w, i32_w]
      rfl
    refine take_ (i := 2) (N := some 15) (v := ?_) (a' := ?_) #[true, false, true, false, false, false] rfl rfl (by kernel_rfl) (fun _ _ _ h => h) (Or.inl ⟨by rfl, ?_⟩) hHeld ?_ ?_
    rotate_left
    · rintro w' ⟨s0, s1⟩
      go_simp
      with_reducible rfl
    rotate_left
    · simp only [Act.put, List.setIfInBounds_toArray, List.set_cons_zero, List.set_cons_succ, i64_w, i32_w]
      rfl
    refine one_ (i := 1) (N := some 14) #[true, true, true, false, false, false] rfl rfl (by kernel_rfl) (by decide) (fun K hK => ?_)
    refine goes_ Try.func31 (by kernel_rfl) rfl #[.agg #[.slice Ao6 l0_0.length co6]] (by rfl) rfl rfl (by (try simp only [List.map_toArray, List.map_cons, List.map_nil]); first | done | rfl | (simp only [List.length_drop, List.length_take]; rfl)) ?_
    with_reducible refine (nat_Nat_Limbs.calls _ _ l0_0 t861 _ ?side1 ?side2 A3.out).mono ?_
    (case side1 => exact (Kd.R_reads' HO0_0.out).2.2)
    (case side2 => exact (Kd.R_reads' HO0_0.out).2.1)
    rintro e w12 ⟨v862, rfl, ho0, hb⟩
    refine ⟨_, rfl, ?_⟩
    have HO863 := Aside0.mk (Kd.R_lower (Kd.R_new' (Kd.R_newM (M := fun k_ => (P0_0_ k_ ∨ w.heap.size ≤ k_)) ho0 (by first | exact HK.out.1 | exact (show Kept w _ (fun k_ => P0_0_ k_) from by repeat (first | (with_reducible first | exact HK.out | apply Kept.alloc | apply Kept.drewN | apply Kept.drew | refine Kept.setCell ?_ (.inr GW857.out) _ | refine Kept.setCell ?_ (.inr GW858.out) _ | refine Kept.setCell ?_ (.inr GW859.out) _ | refine Kept.setCell ?_ (.inr GW860.out) _) | exact HK.out)).1) (fun k_ h_ => .inr h_)) (Kd.R_lt HO0_0.out)) (below_size (by repeat (first | (with_reducible first | exact HB.out | apply below_alloc | apply pw_below_drewN | apply below_drew1 | refine below_set ?_ GE857.out | refine below_set ?_ GE858.out | refine below_set ?_ GE859.out | refine below_set ?_ GE860.out) | exact HB.out))))
    replace HO0_0 := Aside0.mk (Kd.R_elder' HO0_0.out (Kd.R_base ho0) hb)
    replace BK857 := Aside0.mk (blk_below (g := gb857) (o := .cells #[.slice Ao6 l0_0.length co6] 25 (0, 0)) BK857.out hb)
    replace BK858 := Aside0.mk (blk_below (g := gb858) (o := .cells #[.slice A1_0 l1_0.length c1_0] 25 (0, 0)) BK858.out hb)
    replace BK859 := Aside0.mk (blk_below (g := gb859) (o := .cells #[.slice none 0 0] 25 (0, 0)) BK859.out hb)
    replace BK860 := Aside0.mk (blk_below (g := gb860) (o := .cells #[.slice none 0 0] 25 (0, 0)) BK860.out hb)
    replace HK := Aside0.mk (Kept.below (S := (fun k_ => P0_0_ k_)) (by repeat (first | (with_reducible first | exact HK.out | apply Kept.alloc | apply Kept.drewN | apply Kept.drew | refine Kept.setCell ?_ (.inr GW857.out) _ | refine Kept.setCell ?_ (.inr GW858.out) _ | refine Kept.setCell ?_ (.inr GW859.out) _ | refine Kept.setCell ?_ (.inr GW860.out) _) | exact HK.out)) hb)
    replace HB := Aside0.mk (below_step (by repeat (first | (with_reducible first | exact HB.out | apply below_alloc | apply pw_below_drewN | apply below_drew1 | refine below_set ?_ GE857.out | refine below_set ?_ GE858.out | refine below_set ?_ GE859.out | refine below_set ?_ GE860.out) | exact HB.out)) hb)
    (try clear hb)
    (try clear hb2)
    (try clear hk)
    (try clear hi)
    (try clear ho0)
    refine hK.out _ _ ⟨(blk_cell BK857.out 0).trans rfl, (blk_cell BK858.out 0).trans rfl⟩ (fun hHeld => ?_)
    clear hK K
    refine norm_ (a' := ?_) ?_ ?_
    rotate_left
    · show Act.put _ (some 14) _ = _
      simp only [Act.put, List.setIfInBounds_toArray, List.set_cons_zero, List.set_cons_succ, i64_w, i32_w]
      rfl
    refine one_ (i := 3) (N := some 16) #[true, true, true, true, false, false] rfl rfl (by kernel_rfl) (by decide) (fun K hK => ?_)
    refine goes_ Try.func31 (by kernel_rfl) rfl #[.agg #[.slice A1_0 l1_0.length c1_0]] (by rfl) rfl rfl (by (try simp only [List.map_toArray, List.map_cons, List.map_nil]); first | done | rfl | (simp only [List.length_drop, List.length_take]; rfl)) ?_
    with_reducible refine (nat_Nat_Limbs.calls _ _ l1_0 t864 _ ?side1 ?side2 A4.out).mono ?_
    (case side1 => exact Kd.C_kept_now HR1_0.out (by repeat (first | (with_reducible first | exact HK.out | apply Kept.alloc | apply Kept.drewN | apply Kept.drew | refine Kept.setCell ?_ (.inr GW857.out) _ | refine Kept.setCell ?_ (.inr GW858.out) _ | refine Kept.setCell ?_ (.inr GW859.out) _ | refine Kept.setCell ?_ (.inr GW860.out) _) | exact HK.out)))
    (case side2 => exact HC1_0.out)
    rintro e w13 ⟨v865, rfl, ho0, hb⟩
    refine ⟨_, rfl, ?_⟩
    have HO866 := Aside0.mk (Kd.R_lower (Kd.R_new' (Kd.R_new' (Kd.R_newM (M := fun k_ => (P0_0_ k_ ∨ w.heap.size ≤ k_)) ho0 (by first | exact HK.out.1 | exact (show Kept w _ (fun k_ => P0_0_ k_) from by repeat (first | (with_reducible first | exact HK.out | apply Kept.alloc | apply Kept.drewN | apply Kept.drew | refine Kept.setCell ?_ (.inr GW857.out) _ | refine Kept.setCell ?_ (.inr GW858.out) _ | refine Kept.setCell ?_ (.inr GW859.out) _ | refine Kept.setCell ?_ (.inr GW860.out) _) | exact HK.out)).1) (fun k_ h_ => .inr h_)) (Kd.R_lt HO0_0.out)) (Kd.R_lt HO863.out)) (below_size (by repeat (first | (with_reducible first | exact HB.out | apply below_alloc | apply pw_below_drewN | apply below_drew1 | refine below_set ?_ GE857.out | refine below_set ?_ GE858.out | refine below_set ?_ GE859.out | refine below_set ?_ GE860.out) | exact HB.out))))
    replace HO0_0 := Aside0.mk (Kd.R_elder' HO0_0.out (Kd.R_base ho0) hb)
    replace HO863 := Aside0.mk (Kd.R_elder' HO863.out (Kd.R_base ho0) hb)
    replace BK857 := Aside0.mk (blk_below (g := gb857) (o := .cells #[.slice Ao6 l0_0.length co6] 25 (0, 0)) BK857.out hb)
    replace BK858 := Aside0.mk (blk_below (g := gb858) (o := .cells #[.slice A1_0 l1_0.length c1_0] 25 (0, 0)) BK858.out hb)
    replace BK859 := Aside0.mk (blk_below (g := gb859) (o := .cells #[.slice none 0 0] 25 (0, 0)) BK859.out hb)
    replace BK860 := Aside0.mk (blk_below (g := gb860) (o := .cells #[.slice none 0 0] 25 (0, 0)) BK860.out hb)
    replace HK := Aside0.mk (Kept.below (S := (fun k_ => P0_0_ k_)) (by repeat (first | (with_reducible first | exact HK.out | apply Kept.alloc | apply Kept.drewN | apply Kept.drew | refine Kept.setCell ?_ (.inr GW857.out) _ | refine Kept.setCell ?_ (.inr GW858.out) _ | refine Kept.setCell ?_ (.inr GW859.out) _ | refine Kept.setCell ?_ (.inr GW860.out) _) | exact HK.out)) hb)
    replace HB := Aside0.mk (below_step (by repeat (first | (with_reducible first | exact HB.out | apply below_alloc | apply pw_below_drewN | apply below_drew1 | refine below_set ?_ GE857.out | refine below_set ?_ GE858.out | refine below_set ?_ GE859.out | refine below_set ?_ GE860.out) | exact HB.out)) hb)
    (try clear hb)
    (try clear hb2)
    (try clear hk)
    (try clear hi)
    (try clear ho0)
    refine hK.out _ _ ⟨(blk_cell BK857.out 0).trans rfl, (blk_cell BK858.out 0).trans rfl⟩ (fun hHeld => ?_)
    clear hK K
    refine norm_ (a' := ?_) ?_ ?_
    rotate_left
    · show Act.put _ (some 16) _ = _
      simp only [Act.put, List.setIfInBounds_toArray, List.set_cons_zero, List.set_cons_succ, i64_w, i32_w]
      rfl
    refine pure_ (i := 4) (N := some 7) (v := ?_) (a' := ?_) #[true, true, true, true, true, false] rfl rfl (by kernel_rfl) (fun _ _ _ h => h) (Or.inl ⟨by rfl, ?_⟩) ?_ ?_
    rotate_left
    · intro w'
      go_simp
      with_reducible rfl
    rotate_left
    · simp only [Act.put, List.setIfInBounds_toArray, List.set_cons_zero, List.set_cons_succ, i64_w, i32_w]
      rfl
    refine pure_ (i := 5) (N := some 8) (v := ?_) (a' := ?_) #[true, true, true, true, true, true] rfl rfl (by kernel_rfl) (fun _ _ _ h => h) (Or.inl ⟨by rfl, ?_⟩) ?_ ?_
    rotate_left
    · intro w'
      go_simp
      with_reducible rfl
    rotate_left
    · simp only [Act.put, List.setIfInBounds_toArray, List.set_cons_zero, List.set_cons_succ, i64_w, i32_w]
      rfl
    refine done_ (by kernel_rfl) ?_
    obtain ⟨Ao14, co14, eo14⟩ := Kd.R_slice HO866.out
    subst eo14
    have hnb15 := NB859_857.out
    have hnc15 := NB857_859.out
    have hnb16 := NB859_858.out
    have hnc16 := NB858_859.out
    have hnb17 := NB859_860.out
    have hnc17 := NB860_859.out
    have hcz18_0 : w13.cell? ⟨gb859, 0, none⟩ = some (.slice none 0 0) := (blk_cell BK859.out 0).trans rfl
    have hfz18_0 := blk_frozen BK859.out 0
    have hnb19 := NB860_857.out
    have hnc19 := NB857_860.out
    have hnb20 := NB860_858.out
    have hnc20 := NB858_860.out
    have hcz21_0 : w13.cell? ⟨gb860, 0, none⟩ = some (.slice none 0 0) := (blk_cell BK860.out 0).trans rfl
    have hfz21_0 := blk_frozen BK860.out 0
    try go_wp2
    refine bodyPost_ret (results_list (rs := [.cell 4 25, .cell 5 25, .tmp 6]) rfl (by simp) (.cell gb859 25 #[.slice none 0 0] (0, 0) _ rfl (by (with_reducible repeat (first | refine blk_drewN ?_ _ | refine blk_drew ?_ | refine blk_alloc ?_ _)); refine blk_far ?_ NB859_860.out _; (with_reducible repeat (first | refine blk_drewN ?_ _ | refine blk_drew ?_ | refine blk_alloc ?_ _)); refine blk_put (cs := #[.slice none 0 0]) ?_ 0 _ rfl; (with_reducible repeat (first | refine blk_drewN ?_ _ | refine blk_drew ?_ | refine blk_alloc ?_ _)); exact BK859.out) Try.underlying25 rfl (by kernel_rfl) (.cell gb860 25 #[.slice none 0 0] (0, 0) _ rfl (by (with_reducible repeat (first | refine blk_drewN ?_ _ | refine blk_drew ?_ | refine blk_alloc ?_ _)); refine blk_put (cs := #[.slice none 0 0]) ?_ 0 _ rfl; (with_reducible repeat (first | refine blk_drewN ?_ _ | refine blk_drew ?_ | refine blk_alloc ?_ _)); refine blk_far ?_ NB860_859.out _; (with_reducible repeat (first | refine blk_drewN ?_ _ | refine blk_drew ?_ | refine blk_alloc ?_ _)); exact BK860.out) Try.underlying25 rfl (by kernel_rfl) (.tmp .nil)))) rfl ?_
    exact ⟨_, _, rfl, by first | exact Kd.R_nil _ _ _ _ _ | exact Kd.N_nil _ _ _ _ _ | exact Kd.V_nil _ _ _ _ _ | exact Kd.Q_nil _ _ _ _ _ | exact Kd.S_nil _ _ _ _ _, by first | exact Kd.R_nil _ _ _ _ _ | exact Kd.N_nil _ _ _ _ _ | exact Kd.V_nil _ _ _ _ _ | exact Kd.Q_nil _ _ _ _ _ | exact Kd.S_nil _ _ _ _ _, by repeat (first | (with_reducible first | exact HB.out | apply below_alloc | apply pw_below_drewN | apply below_drew1 | refine below_set ?_ GE857.out | refine below_set ?_ GE858.out | refine below_set ?_ GE859.out | refine below_set ?_ GE860.out) | exact HB.out), by repeat (first | (with_reducible first | exact HK.out | apply Kept.alloc | apply Kept.drewN | apply Kept.drew | refine Kept.setCell ?_ (.inr GW857.out) _ | refine Kept.setCell ?_ (.inr GW858.out) _ | refine Kept.setCell ?_ (.inr GW859.out) _ | refine Kept.setCell ?_ (.inr GW860.out) _) | exact HK.out)⟩
  rw [if_neg c5] at H
  have c5b0 : ((t864.length : Int) == 0) = false := beq_eq_false_iff_ne.mpr c5
  have c5b1 : ((t864.length : Int) != 0) = true := bne_iff_ne.mpr c5
  have c5b2 : ¬ (t864 = []) := fun h_ => c5 (by rw [h_]; rfl)
  by_cases c22 : (t861.length : Int) < (t864.length : Int)
  · rw [if_pos c22] at H
    have c22b0 : decide ((t861.length : Int) < (t864.length : Int)) = true := decide_eq_true c22
    have c22b1 : decide (t861.length < t864.length) = true := decide_eq_true (Int.ofNat_lt.mp c22)
    clear c22
    simp only [Option.some.injEq, Prod.mk.injEq] at H
    obtain ⟨rfl, rfl, rfl⟩ := H
    obtain ⟨Ao23, co23, eo23⟩ := Kd.R_slice HO0_0.out
    subst eo23
    go_enter Try.func42, Try.ntmps42
    try go_wp2_with (first | ((with_reducible refine gate_dst (N := 2) rfl ?_); refine box_event ?hg (N := 2) ?hd (cs := #[.slice Ao23 l0_0.length co23]) (t := 25) ?hr ?_; (case hd => rfl); (case hg => rfl); (case hr => first | (go_simp; done) | (go_simp; rfl)); intro gb857 hg w24 hbox hb; replace HO0_0 := Aside0.mk (Kd.R_below HO0_0.out hb); have BK857 := Aside0.mk (hbox); have GW857 := Aside0.mk ((by rw [hg]; exact (by first | exact HK.out.1 | exact (show Kept w _ (fun k_ => P0_0_ k_) from by repeat (first | (with_reducible first | exact HK.out | apply Kept.alloc | apply Kept.drewN | apply Kept.drew) | exact HK.out)).1) : w.heap.size ≤ gb857)); replace HK := Aside0.mk (Kept.below (S := (fun k_ => P0_0_ k_)) (by repeat (first | (with_reducible first | exact HK.out | apply Kept.alloc | apply Kept.drewN | apply Kept.drew) | exact HK.out)) hb); have GE857 := Aside0.mk ((by rw [hg]; exact (below_size (by repeat (first | (with_reducible first | exact HB.out | apply below_alloc | apply pw_below_drewN | apply below_drew1) | exact HB.out))) : w0.heap.size ≤ gb857)); replace HB := Aside0.mk (below_step (by repeat (first | (with_reducible first | exact HB.out | apply below_alloc | apply pw_below_drewN | apply below_drew1) | exact HB.out)) hb); clear hb hbox hg) | ((with_reducible refine gate_dst (N := 3) rfl ?_); refine box_event ?hg (N := 3) ?hd (cs := #[.slice A1_0 l1_0.length c1_0]) (t := 25) ?hr ?_; (case hd => rfl); (case hg => rfl); (case hr => first | (go_simp; done) | (go_simp; rfl)); intro gb858 hg w25 hbox hb; replace HO0_0 := Aside0.mk (Kd.R_below HO0_0.out hb); have BK858 := Aside0.mk (hbox); have GW858 := Aside0.mk ((by rw [hg]; exact (by first | exact HK.out.1 | exact (show Kept w _ (fun k_ => P0_0_ k_) from by repeat (first | (with_reducible first | exact HK.out | apply Kept.alloc | apply Kept.drewN | apply Kept.drew | refine Kept.setCell ?_ (.inr GW857.out) _) | exact HK.out)).1) : w.heap.size ≤ gb858)); replace HK := Aside0.mk (Kept.below (S := (fun k_ => P0_0_ k_)) (by repeat (first | (with_reducible first | exact HK.out | apply Kept.alloc | apply Kept.drewN | apply Kept.drew | refine Kept.setCell ?_ (.inr GW857.out) _) | exact HK.out)) hb); have GE858 := Aside0.mk ((by rw [hg]; exact (below_size (by repeat (first | (with_reducible first | exact HB.out | apply below_alloc | apply pw_below_drewN | apply below_drew1 | refine below_set ?_ GE857.out) | exact HB.out))) : w0.heap.size ≤ gb858)); replace HB := Aside0.mk (below_step (by repeat (first | (with_reducible first | exact HB.out | apply below_alloc | apply pw_below_drewN | apply below_drew1 | refine below_set ?_ GE857.out) | exact HB.out)) hb); have NB857_858 := Aside0.mk ((by rw [hg]; exact Nat.ne_of_lt (blk_lt (g := gb857) (o := .cells #[.slice Ao23 l0_0.length co23] 25 (0, 0)) BK857.out) : gb857 ≠ gb858)); have NB858_857 := Aside0.mk ((by rw [hg]; exact Nat.ne_of_gt (blk_lt (g := gb857) (o := .cells #[.slice Ao23 l0_0.length co23] 25 (0, 0)) BK857.out) : gb858 ≠ gb857)); replace BK857 := Aside0.mk (blk_below (g := gb857) (o := .cells #[.slice Ao23 l0_0.length co23] 25 (0, 0)) BK857.out hb); clear hb hbox hg) | ((with_reducible refine gate_dst (N := 4) rfl ?_); refine box_event ?hg (N := 4) ?hd (cs := #[.slice none 0 0]) (t := 25) ?hr ?_; (case hd => rfl); (case hg => rfl); (case hr => first | (go_simp; done) | (go_simp; rfl)); intro gb859 hg w26 hbox hb; replace HO0_0 := Aside0.mk (Kd.R_below HO0_0.out hb); have BK859 := Aside0.mk (hbox); have GW859 := Aside0.mk ((by rw [hg]; exact (by first | exact HK.out.1 | exact (show Kept w _ (fun k_ => P0_0_ k_) from by repeat (first | (with_reducible first | exact HK.out | apply Kept.alloc | apply Kept.drewN | apply Kept.drew | refine Kept.setCell ?_ (.inr GW857.out) _ | refine Kept.setCell ?_ (.inr GW858.out) _) | exact HK.out)).1) : w.heap.size ≤ gb859)); replace HK := Aside0.mk (Kept.below (S := (fun k_ => P0_0_ k_)) (by repeat (first | (with_reducible first | exact HK.out | apply Kept.alloc | apply Kept.drewN | apply Kept.drew | refine Kept.setCell ?_ (.inr GW857.out) _ | refine Kept.setCell ?_ (.inr GW858.out) _) | exact HK.out)) hb); have GE859 := Aside0.mk ((by rw [hg]; exact (below_size (by repeat (first | (with_reducible first | exact HB.out | apply below_alloc | apply pw_below_drewN | apply below_drew1 | refine below_set ?_ GE857.out | refine below_set ?_ GE858.out) | exact HB.out))) : w0.heap.size ≤ gb859)); replace HB := Aside0.mk (below_step (by repeat (first | (with_reducible first | exact HB.out | apply below_alloc | apply pw_below_drewN | apply below_drew1 | refine below_set ?_ GE857.out | refine below_set ?_ GE858.out) | exact HB.out)) hb); have NB857_859 := Aside0.mk ((by rw [hg]; exact Nat.ne_of_lt (blk_lt (g := gb857) (o := .cells #[.slice Ao23 l0_0.length co23] 25 (0, 0)) BK857.out) : gb857 ≠ gb859)); have NB859_857 := Aside0.mk ((by rw [hg]; exact Nat.ne_of_gt (blk_lt (g := gb857) (o := .cells #[.slice Ao23 l0_0.length co23] 25 (0, 0)) BK857.out) : gb859 ≠ gb857)); replace BK857 := Aside0.mk (blk_below (g := gb857) (o := .cells #[.slice Ao23 l0_0.length co23] 25 (0, 0)) BK857.out hb); have NB858_859 := Aside0.mk ((by rw [hg]; exact Nat.ne_of_lt (blk_lt (g := gb858) (o := .cells #[.slice A1_0 l1_0.length c1_0] 25 (0, 0)) BK858.out) : gb858 ≠ gb859)); have NB859_858 := Aside0.mk ((by rw [hg]; exact Nat.ne_of_gt (blk_lt (g := gb858) (o := .cells #[.slice A1_0 l1_0.length c1_0] 25 (0, 0)) BK858.out) : gb859 ≠ gb858)); replace BK858 := Aside0.mk (blk_below (g := gb858) (o := .cells #[.slice A1_0 l1_0.length c1_0] 25 (0, 0)) BK858.out hb); clear hb hbox hg) | ((with_reducible refine gate_dst (N := 5) rfl ?_); refine box_event ?hg (N := 5) ?hd (cs := #[.slice none 0 0]) (t := 25) ?hr ?_; (case hd => rfl); (case hg => rfl); (case hr => first | (go_simp; done) | (go_simp; rfl)); intro gb860 hg w27 hbox hb; replace HO0_0 := Aside0.mk (Kd.R_below HO0_0.out hb); have BK860 := Aside0.mk (hbox); have GW860 := Aside0.mk ((by rw [hg]; exact (by first | exact HK.out.1 | exact (show Kept w _ (fun k_ => P0_0_ k_) from by repeat (first | (with_reducible first | exact HK.out | apply Kept.alloc | apply Kept.drewN | apply Kept.drew | refine Kept.setCell ?_ (.inr GW857.out) _ | refine Kept.setCell ?_ (.inr GW858.out) _ | refine Kept.setCell ?_ (.inr GW859.out) _) | exact HK.out)).1) : w.heap.size ≤ gb860)); replace HK := Aside0.mk (Kept.below (S := (fun k_ => P0_0_ k_)) (by repeat (first | (with_reducible first | exact HK.out | apply Kept.alloc | apply Kept.drewN | apply Kept.drew | refine Kept.setCell ?_ (.inr GW857.out) _ | refine Kept.setCell ?_ (.inr GW858.out) _ | refine Kept.setCell ?_ (.inr GW859.out) _) | exact HK.out)) hb); have GE860 := Aside0.mk ((by rw [hg]; exact (below_size (by repeat (first | (with_reducible first | exact HB.out | apply below_alloc | apply pw_below_drewN | apply below_drew1 | refine below_set ?_ GE857.out | refine below_set ?_ GE858.out | refine below_set ?_ GE859.out) | exact HB.out))) : w0.heap.size ≤ gb860)); replace HB := Aside0.mk (below_step (by repeat (first | (with_reducible first | exact HB.out | apply below_alloc | apply pw_below_drewN | apply below_drew1 | refine below_set ?_ GE857.out | refine below_set ?_ GE858.out | refine below_set ?_ GE859.out) | exact HB.out)) hb); have NB857_860 := Aside0.mk ((by rw [hg]; exact Nat.ne_of_lt (blk_lt (g := gb857) (o := .cells #[.slice Ao23 l0_0.length co23] 25 (0, 0)) BK857.out) : gb857 ≠ gb860)); have NB860_857 := Aside0.mk ((by rw [hg]; exact Nat.ne_of_gt (blk_lt (g := gb857) (o := .cells #[.slice Ao23 l0_0.length co23] 25 (0, 0)) BK857.out) : gb860 ≠ gb857)); replace BK857 := Aside0.mk (blk_below (g := gb857) (o := .cells #[.slice Ao23 l0_0.length co23] 25 (0, 0)) BK857.out hb); have NB858_860 := Aside0.mk ((by rw [hg]; exact Nat.ne_of_lt (blk_lt (g := gb858) (o := .cells #[.slice A1_0 l1_0.length c1_0] 25 (0, 0)) BK858.out) : gb858 ≠ gb860)); have NB860_858 := Aside0.mk ((by rw [hg]; exact Nat.ne_of_gt (blk_lt (g := gb858) (o := .cells #[.slice A1_0 l1_0.length c1_0] 25 (0, 0)) BK858.out) : gb860 ≠ gb858)); replace BK858 := Aside0.mk (blk_below (g := gb858) (o := .cells #[.slice A1_0 l1_0.length c1_0] 25 (0, 0)) BK858.out hb); have NB859_860 := Aside0.mk ((by rw [hg]; exact Nat.ne_of_lt (blk_lt (g := gb859) (o := .cells #[.slice none 0 0] 25 (0, 0)) BK859.out) : gb859 ≠ gb860)); have NB860_859 := Aside0.mk ((by rw [hg]; exact Nat.ne_of_gt (blk_lt (g := gb859) (o := .cells #[.slice none 0 0] 25 (0, 0)) BK859.out) : gb860 ≠ gb859)); replace BK859 := Aside0.mk (blk_below (g := gb859) (o := .cells #[.slice none 0 0] 25 (0, 0)) BK859.out hb); clear hb hbox hg))
    replace HO0_0 := Aside0.mk (Kd.R_drew HO0_0.out)
    replace BK857 := Aside0.mk (blk_drew BK857.out)
    replace BK858 := Aside0.mk (blk_drew BK858.out)
    replace BK859 := Aside0.mk (blk_drew BK859.out)
    replace BK860 := Aside0.mk (blk_drew BK860.out)
    replace HK := Aside0.mk (Kept.drew HK.out)
    replace HB := Aside0.mk (below_drew1 HB.out)
    refine start_ (n := 6) (S := fun w' => w'.cell? ⟨gb857, 0, none⟩ = some (.slice Ao23 l0_0.length co23) ∧ w'.cell? ⟨gb858, 0, none⟩ = some (.slice A1_0 l1_0.length c1_0)) (ds := []) #[false, false, false, false, false, false] (by kernel_rfl) rfl rfl ⟨(blk_cell BK857.out 0).trans rfl, (blk_cell BK858.out 0).trans rfl⟩ (fun hHeld => ?_)
    generalize w27.drew = w28 at HO0_0 BK857 BK858 BK859 BK860 HK HB hHeld ⊢
    refine take_ (i := 0) (N := some 13) (v := ?_) (a' := ?_) #[true, false, false, false, false, false] rfl rfl (by kernel_rfl) (fun _ _ _ h => h) (Or.inl ⟨by rfl, ?_⟩) hHeld ?_ ?_
    rotate_left
    · rintro w' ⟨s0, s1⟩
      go_simp
      with_reducible rfl
    rotate_left
    · simp only [Act.put, List.setIfInBounds_toArray, List.set_cons_zero, List.set_cons_succ, i64_w, i32_w]
      rfl
    refine take_ (i := 2) (N := some 15) (v := ?_) (a' := ?_) #[true, false, true, false, false, false] rfl rfl (by kernel_rfl) (fun _ _ _ h => h) (Or.inl ⟨by rfl, ?_⟩) hHeld ?_ ?_
    rotate_left
    · rintro w' ⟨s0, s1⟩
      go_simp
      with_reducible rfl
    rotate_left
    · simp only [Act.put, List.setIfInBounds_toArray, List.set_cons_zero, List.set_cons_succ, i64_w, i32_w]
      rfl
    refine one_ (i := 1) (N := some 14) #[true, true, true, false, false, false] rfl rfl (by kernel_rfl) (by decide) (fun K hK => ?_)
    refine goes_ Try.func31 (by kernel_rfl) rfl #[.agg #[.slice Ao23 l0_0.length co23]] (by rfl) rfl rfl (by (try simp only [List.map_toArray, List.map_cons, List.map_nil]); first | done | rfl | (simp only [List.length_drop, List.length_take]; rfl)) ?_
    with_reducible refine (nat_Nat_Limbs.calls _ _ l0_0 t861 _ ?side1 ?side2 A3.out).mono ?_
    (case side1 => exact (Kd.R_reads' HO0_0.out).2.2)
    (case side2 => exact (Kd.R_reads' HO0_0.out).2.1)
    rintro e w29 ⟨v862, rfl, ho0, hb⟩
    refine ⟨_, rfl, ?_⟩
    have HO863 := Aside0.mk (Kd.R_lower (Kd.R_new' (Kd.R_newM (M := fun k_ => (P0_0_ k_ ∨ w.heap.size ≤ k_)) ho0 (by first | exact HK.out.1 | exact (show Kept w _ (fun k_ => P0_0_ k_) from by repeat (first | (with_reducible first | exact HK.out | apply Kept.alloc | apply Kept.drewN | apply Kept.drew | refine Kept.setCell ?_ (.inr GW857.out) _ | refine Kept.setCell ?_ (.inr GW858.out) _ | refine Kept.setCell ?_ (.inr GW859.out) _ | refine Kept.setCell ?_ (.inr GW860.out) _) | exact HK.out)).1) (fun k_ h_ => .inr h_)) (Kd.R_lt HO0_0.out)) (below_size (by repeat (first | (with_reducible first | exact HB.out | apply below_alloc | apply pw_below_drewN | apply below_drew1 | refine below_set ?_ GE857.out | refine below_set ?_ GE858.out | refine below_set ?_ GE859.out | refine below_set ?_ GE860.out) | exact HB.out))))
    replace HO0_0 := Aside0.mk (Kd.R_elder' HO0_0.out (Kd.R_base ho0) hb)
    replace BK857 := Aside0.mk (blk_below (g := gb857) (o := .cells #[.slice Ao23 l0_0.length co23] 25 (0, 0)) BK857.out hb)
    replace BK858 := Aside0.mk (blk_below (g := gb858) (o := .cells #[.slice A1_0 l1_0.length c1_0] 25 (0, 0)) BK858.out hb)
    replace BK859 := Aside0.mk (blk_below (g := gb859) (o := .cells #[.slice none 0 0] 25 (0, 0)) BK859.out hb)
    replace BK860 := Aside0.mk (blk_below (g := gb860) (o := .cells #[.slice none 0 0] 25 (0, 0)) BK860.out hb)
    replace HK := Aside0.mk (Kept.below (S := (fun k_ => P0_0_ k_)) (by repeat (first | (with_reducible first | exact HK.out | apply Kept.alloc | apply Kept.drewN | apply Kept.drew | refine Kept.setCell ?_ (.inr GW857.out) _ | refine Kept.setCell ?_ (.inr GW858.out) _ | refine Kept.setCell ?_ (.inr GW859.out) _ | refine Kept.setCell ?_ (.inr GW860.out) _) | exact HK.out)) hb)
    replace HB := Aside0.mk (below_step (by repeat (first | (with_reducible first | exact HB.out | apply below_alloc | apply pw_below_drewN | apply below_drew1 | refine below_set ?_ GE857.out | refine below_set ?_ GE858.out | refine below_set ?_ GE859.out | refine below_set ?_ GE860.out) | exact HB.out)) hb)
    (try clear hb)
    (try clear hb2)
    (try clear hk)
    (try clear hi)
    (try clear ho0)
    refine hK.out _ _ ⟨(blk_cell BK857.out 0).trans rfl, (blk_cell BK858.out 0).trans rfl⟩ (fun hHeld => ?_)
    clear hK K
    refine norm_ (a' := ?_) ?_ ?_
    rotate_left
    · show Act.put _ (some 14) _ = _
      simp only [Act.put, List.setIfInBounds_toArray, List.set_cons_zero, List.set_cons_succ, i64_w, i32_w]
      rfl
    refine one_ (i := 3) (N := some 16) #[true, true, true, true, false, false] rfl rfl (by kernel_rfl) (by decide) (fun K hK => ?_)
    refine goes_ Try.func31 (by kernel_rfl) rfl #[.agg #[.slice A1_0 l1_0.length c1_0]] (by rfl) rfl rfl (by (try simp only [List.map_toArray, List.map_cons, List.map_nil]); first | done | rfl | (simp only [List.length_drop, List.length_take]; rfl)) ?_
    with_reducible refine (nat_Nat_Limbs.calls _ _ l1_0 t864 _ ?side1 ?side2 A4.out).mono ?_
    (case side1 => exact Kd.C_kept_now HR1_0.out (by repeat (first | (with_reducible first | exact HK.out | apply Kept.alloc | apply Kept.drewN | apply Kept.drew | refine Kept.setCell ?_ (.inr GW857.out) _ | refine Kept.setCell ?_ (.inr GW858.out) _ | refine Kept.setCell ?_ (.inr GW859.out) _ | refine Kept.setCell ?_ (.inr GW860.out) _) | exact HK.out)))
    (case side2 => exact HC1_0.out)
    rintro e w30 ⟨v865, rfl, ho0, hb⟩
    refine ⟨_, rfl, ?_⟩
    have HO866 := Aside0.mk (Kd.R_lower (Kd.R_new' (Kd.R_new' (Kd.R_newM (M := fun k_ => (P0_0_ k_ ∨ w.heap.size ≤ k_)) ho0 (by first | exact HK.out.1 | exact (show Kept w _ (fun k_ => P0_0_ k_) from by repeat (first | (with_reducible first | exact HK.out | apply Kept.alloc | apply Kept.drewN | apply Kept.drew | refine Kept.setCell ?_ (.inr GW857.out) _ | refine Kept.setCell ?_ (.inr GW858.out) _ | refine Kept.setCell ?_ (.inr GW859.out) _ | refine Kept.setCell ?_ (.inr GW860.out) _) | exact HK.out)).1) (fun k_ h_ => .inr h_)) (Kd.R_lt HO0_0.out)) (Kd.R_lt HO863.out)) (below_size (by repeat (first | (with_reducible first | exact HB.out | apply below_alloc | apply pw_below_drewN | apply below_drew1 | refine below_set ?_ GE857.out | refine below_set ?_ GE858.out | refine below_set ?_ GE859.out | refine below_set ?_ GE860.out) | exact HB.out))))
    replace HO0_0 := Aside0.mk (Kd.R_elder' HO0_0.out (Kd.R_base ho0) hb)
    replace HO863 := Aside0.mk (Kd.R_elder' HO863.out (Kd.R_base ho0) hb)
    replace BK857 := Aside0.mk (blk_below (g := gb857) (o := .cells #[.slice Ao23 l0_0.length co23] 25 (0, 0)) BK857.out hb)
    replace BK858 := Aside0.mk (blk_below (g := gb858) (o := .cells #[.slice A1_0 l1_0.length c1_0] 25 (0, 0)) BK858.out hb)
    replace BK859 := Aside0.mk (blk_below (g := gb859) (o := .cells #[.slice none 0 0] 25 (0, 0)) BK859.out hb)
    replace BK860 := Aside0.mk (blk_below (g := gb860) (o := .cells #[.slice none 0 0] 25 (0, 0)) BK860.out hb)
    replace HK := Aside0.mk (Kept.below (S := (fun k_ => P0_0_ k_)) (by repeat (first | (with_reducible first | exact HK.out | apply Kept.alloc | apply Kept.drewN | apply Kept.drew | refine Kept.setCell ?_ (.inr GW857.out) _ | refine Kept.setCell ?_ (.inr GW858.out) _ | refine Kept.setCell ?_ (.inr GW859.out) _ | refine Kept.setCell ?_ (.inr GW860.out) _) | exact HK.out)) hb)
    replace HB := Aside0.mk (below_step (by repeat (first | (with_reducible first | exact HB.out | apply below_alloc | apply pw_below_drewN | apply below_drew1 | refine below_set ?_ GE857.out | refine below_set ?_ GE858.out | refine below_set ?_ GE859.out | refine below_set ?_ GE860.out) | exact HB.out)) hb)
    (try clear hb)
    (try clear hb2)
    (try clear hk)
    (try clear hi)
    (try clear ho0)
    refine hK.out _ _ ⟨(blk_cell BK857.out 0).trans rfl, (blk_cell BK858.out 0).trans rfl⟩ (fun hHeld => ?_)
    clear hK K
    refine norm_ (a' := ?_) ?_ ?_
    rotate_left
    · show Act.put _ (some 16) _ = _
      simp only [Act.put, List.setIfInBounds_toArray, List.set_cons_zero, List.set_cons_succ, i64_w, i32_w]
      rfl
    refine pure_ (i := 4) (N := some 7) (v := ?_) (a' := ?_) #[true, true, true, true, true, false] rfl rfl (by kernel_rfl) (fun _ _ _ h => h) (Or.inl ⟨by rfl, ?_⟩) ?_ ?_
    rotate_left
    · intro w'
      go_simp
      with_reducible rfl
    rotate_left
    · simp only [Act.put, List.setIfInBounds_toArray, List.set_cons_zero, List.set_cons_succ, i64_w, i32_w]
      rfl
    refine pure_ (i := 5) (N := some 8) (v := ?_) (a' := ?_) #[true, true, true, true, true, true] rfl rfl (by kernel_rfl) (fun _ _ _ h => h) (Or.inl ⟨by rfl, ?_⟩) ?_ ?_
    rotate_left
    · intro w'
      go_simp
      with_reducible rfl
    rotate_left
    · simp only [Act.put, List.setIfInBounds_toArray, List.set_cons_zero, List.set_cons_succ, i64_w, i32_w]
      rfl
    refine done_ (by kernel_rfl) ?_
    obtain ⟨Ao31, co31, eo31⟩ := Kd.R_slice HO866.out
    subst eo31
    obtain ⟨Ao32, co32, eo32⟩ := Kd.R_slice HO863.out
    subst eo32
    try go_wp2
    replace HO0_0 := Aside0.mk (Kd.R_drew HO0_0.out)
    replace HO863 := Aside0.mk (Kd.R_drew HO863.out)
    replace HO866 := Aside0.mk (Kd.R_drew HO866.out)
    replace BK857 := Aside0.mk (blk_drew BK857.out)
    replace BK858 := Aside0.mk (blk_drew BK858.out)
    replace BK859 := Aside0.mk (blk_drew BK859.out)
    replace BK860 := Aside0.mk (blk_drew BK860.out)
    replace HK := Aside0.mk (Kept.drew HK.out)
    replace HB := Aside0.mk (below_drew1 HB.out)
    refine start_ (n := 5) (S := fun w' => w'.cell? ⟨gb857, 0, none⟩ = some (.slice Ao23 l0_0.length co23)) (ds := []) #[false, false, false, false, false] (by kernel_rfl) rfl rfl ((blk_cell BK857.out 0).trans rfl) (fun hHeld => ?_)
    generalize w30.drew = w33 at HO0_0 HO863 HO866 BK857 BK858 BK859 BK860 HK HB hHeld ⊢
    refine pure_ (i := 0) (N := some 29) (v := ?_) (a' := ?_) #[true, false, false, false, false] rfl rfl (by kernel_rfl) (fun _ _ _ h => h) (Or.inl ⟨by rfl, ?_⟩) ?_ ?_
    rotate_left
    · intro w'
      go_simp
      with_reducible rfl
    rotate_left
    · simp only [Act.put, List.setIfInBounds_toArray, List.set_cons_zero, List.set_cons_succ, i64_w, i32_w]
      rfl
    refine take_ (i := 1) (N := some 30) (v := ?_) (a' := ?_) #[true, true, false, false, false] rfl rfl (by kernel_rfl) (fun _ _ _ h => h) (Or.inl ⟨by rfl, ?_⟩) hHeld ?_ ?_
    rotate_left
    · intro w' s0
      go_simp
      with_reducible rfl
    rotate_left
    · simp only [Act.put, List.setIfInBounds_toArray, List.set_cons_zero, List.set_cons_succ, i64_w, i32_w]
      rfl
    refine one_ (i := 2) (N := none) #[true, true, true, false, false] rfl rfl (by kernel_rfl) (by decide) (fun K hK => ?_)
    have hs34 : w33.cell? ⟨gb859, 0, none⟩ = some (.slice none 0 0) := (blk_cell BK859.out 0).trans rfl
    have hfs34 := blk_frozen BK859.out 0
    have hns34_0 := NB857_859.out
    have hns34_1 := NB858_859.out
    have hns34_3 := NB860_859.out
    have hms34_0 := NB859_857.out
    have hms34_1 := NB859_858.out
    have hms34_3 := NB859_860.out
    refine skip_ (w1 := ?_) (by rfl) rfl ?_ ?_
    rotate_left
    · go_simp
      rfl
    refine hK.out _ _ (((cell_far (p := ⟨gb859, _, none⟩) NB857_859.out _).trans (hHeld))) (fun hHeld => ?_)
    clear hK K
    refine one_ (i := 3) (N := none) #[true, true, true, true, false] rfl rfl (by kernel_rfl) (by decide) (fun K hK => ?_)
    have hs35 : w33.cell? ⟨gb860, 0, none⟩ = some (.slice none 0 0) := (blk_cell BK860.out 0).trans rfl
    have hfs35 := blk_frozen BK860.out 0
    have hns35_0 := NB857_860.out
    have hns35_1 := NB858_860.out
    have hns35_2 := NB859_860.out
    have hms35_0 := NB860_857.out
    have hms35_1 := NB860_858.out
    have hms35_2 := NB860_859.out
    refine skip_ (w1 := ?_) (by rfl) rfl ?_ ?_
    rotate_left
    · go_simp
      rfl
    refine hK.out _ _ (((cell_far (p := ⟨gb860, _, none⟩) NB857_860.out _).trans (hHeld))) (fun hHeld => ?_)
    clear hK K
    refine pure_ (i := 4) (N := some 6) (v := ?_) (a' := ?_) #[true, true, true, true, true] rfl rfl (by kernel_rfl) (fun _ _ _ h => h) (Or.inl ⟨by rfl, ?_⟩) ?_ ?_
    rotate_left
    · intro w'
      go_simp
      with_reducible rfl
    rotate_left
    · simp only [Act.put, List.setIfInBounds_toArray, List.set_cons_zero, List.set_cons_succ, i64_w, i32_w]
      rfl
    refine done_ (by kernel_rfl) ?_
    try go_wp2
    refine bodyPost_ret (results_list (rs := [.cell 4 25, .cell 5 25, .tmp 6]) rfl (by simp) (.cell gb859 25 #[.slice none 0 0] (0, 0) _ rfl (by (with_reducible repeat (first | refine blk_drewN ?_ _ | refine blk_drew ?_ | refine blk_alloc ?_ _)); refine blk_far ?_ NB859_860.out _; (with_reducible repeat (first | refine blk_drewN ?_ _ | refine blk_drew ?_ | refine blk_alloc ?_ _)); refine blk_put (cs := #[.slice none 0 0]) ?_ 0 _ rfl; (with_reducible repeat (first | refine blk_drewN ?_ _ | refine blk_drew ?_ | refine blk_alloc ?_ _)); exact BK859.out) Try.underlying25 rfl (by kernel_rfl) (.cell gb860 25 #[.slice Ao23 l0_0.length co23] (0, 0) _ rfl (by (with_reducible repeat (first | refine blk_drewN ?_ _ | refine blk_drew ?_ | refine blk_alloc ?_ _)); refine blk_put (cs := #[.slice none 0 0]) ?_ 0 _ rfl; (with_reducible repeat (first | refine blk_drewN ?_ _ | refine blk_drew ?_ | refine blk_alloc ?_ _)); refine blk_far ?_ NB860_859.out _; (with_reducible repeat (first | refine blk_drewN ?_ _ | refine blk_drew ?_ | refine blk_alloc ?_ _)); exact BK860.out) Try.underlying25 rfl (by kernel_rfl) (.tmp .nil)))) rfl ?_
    exact ⟨_, _, rfl, by first | exact Kd.R_nil _ _ _ _ _ | exact Kd.N_nil _ _ _ _ _ | exact Kd.V_nil _ _ _ _ _ | exact Kd.Q_nil _ _ _ _ _ | exact Kd.S_nil _ _ _ _ _, by exact Kd.R_mono (Kd.R_far (p := ⟨gb860, 0, none⟩) (Kd.R_far (p := ⟨gb859, 0, none⟩) (Kd.R_types (Kd.R_types HO0_0.out BK859.out (by decide)) BK860.out (by decide)) (fun _ hk => hk.1.2) (.slice none 0 0)) (fun _ hk => hk.2) (.slice Ao23 l0_0.length co23)) (fun _ hk => ⟨hk.1.1.1.1, (by simp [Value.ownBlock])⟩), by repeat (first | (with_reducible first | exact HB.out | apply below_alloc | apply pw_below_drewN | apply below_drew1 | refine below_set ?_ GE857.out | refine below_set ?_ GE858.out | refine below_set ?_ GE859.out | refine below_set ?_ GE860.out) | exact HB.out), by repeat (first | (with_reducible first | exact HK.out | apply Kept.alloc | apply Kept.drewN | apply Kept.drew | refine Kept.setCell ?_ (.inr GW857.out) _ | refine Kept.setCell ?_ (.inr GW858.out) _ | refine Kept.setCell ?_ (.inr GW859.out) _ | refine Kept.setCell ?_ (.inr GW860.out) _) | exact HK.out)⟩
  rw [if_neg c22] at H
  have c22b0 : decide ((t861.length : Int) < (t864.length : Int)) = false := decide_eq_false c22
  have c22b1 : decide (t861.length < t864.length) = false := decide_eq_false (fun h => c22 (Int.ofNat_lt.mpr h))
  clear c22
  by_cases c36 : (t864.length : Int) = 1
  · rw [if_pos c36] at H
    have c36b0 : ((t864.length : Int) == 1) = true := beq_iff_eq.mpr c36
    have c36b1 : ((t864.length : Int) != 1) = false := bne_eq_false_iff_eq.mpr c36
    clear c36
    by_cases c37 : 0 < (t864.length : Int)
    rotate_left
    · rw [if_neg c37] at H
      exact absurd H (by simp)
    rw [if_pos c37] at H
    have c37b0 : decide (0 < (t864.length : Int)) = true := decide_eq_true c37
    have c37b1 : decide (0 < t864.length) = true := decide_eq_true (by omega)
    clear c37
    replace H := Option.bind_eq_some_iff.mp H
    obtain ⟨⟨t868, t869⟩, A380, H⟩ := H
    have A38 := Aside0.mk A380
    clear A380
    replace H := Option.bind_eq_some_iff.mp H
    obtain ⟨t872, A390, H⟩ := H
    have A39 := Aside0.mk A390
    clear A390
    replace H := Option.bind_eq_some_iff.mp H
    obtain ⟨t875, A400, H⟩ := H
    have A40 := Aside0.mk A400
    clear A400
    simp only [Option.some.injEq, Prod.mk.injEq] at H
    obtain ⟨rfl, rfl, rfl⟩ := H
    obtain ⟨Ao41, co41, eo41⟩ := Kd.R_slice HO0_0.out
    subst eo41
    go_enter Try.func42, Try.ntmps42
    try go_wp2_with (first | ((with_reducible refine gate_dst (N := 2) rfl ?_); refine box_event ?hg (N := 2) ?hd (cs := #[.slice Ao41 l0_0.length co41]) (t := 25) ?hr ?_; (case hd => rfl); (case hg => rfl); (case hr => first | (go_simp; done) | (go_simp; rfl)); intro gb857 hg w42 hbox hb; replace HO0_0 := Aside0.mk (Kd.R_below HO0_0.out hb); have BK857 := Aside0.mk (hbox); have GW857 := Aside0.mk ((by rw [hg]; exact (by first | exact HK.out.1 | exact (show Kept w _ (fun k_ => P0_0_ k_) from by repeat (first | (with_reducible first | exact HK.out | apply Kept.alloc | apply Kept.drewN | apply Kept.drew) | exact HK.out)).1) : w.heap.size ≤ gb857)); replace HK := Aside0.mk (Kept.below (S := (fun k_ => P0_0_ k_)) (by repeat (first | (with_reducible first | exact HK.out | apply Kept.alloc | apply Kept.drewN | apply Kept.drew) | exact HK.out)) hb); have GE857 := Aside0.mk ((by rw [hg]; exact (below_size (by repeat (first | (with_reducible first | exact HB.out | apply below_alloc | apply pw_below_drewN | apply below_drew1) | exact HB.out))) : w0.heap.size ≤ gb857)); replace HB := Aside0.mk (below_step (by repeat (first | (with_reducible first | exact HB.out | apply below_alloc | apply pw_below_drewN | apply below_drew1) | exact HB.out)) hb); clear hb hbox hg) | ((with_reducible refine gate_dst (N := 3) rfl ?_); refine box_event ?hg (N := 3) ?hd (cs := #[.slice A1_0 l1_0.length c1_0]) (t := 25) ?hr ?_; (case hd => rfl); (case hg => rfl); (case hr => first | (go_simp; done) | (go_simp; rfl)); intro gb858 hg w43 hbox hb; replace HO0_0 := Aside0.mk (Kd.R_below HO0_0.out hb); have BK858 := Aside0.mk (hbox); have GW858 := Aside0.mk ((by rw [hg]; exact (by first | exact HK.out.1 | exact (show Kept w _ (fun k_ => P0_0_ k_) from by repeat (first | (with_reducible first | exact HK.out | apply Kept.alloc | apply Kept.drewN | apply Kept.drew | refine Kept.setCell ?_ (.inr GW857.out) _) | exact HK.out)).1) : w.heap.size ≤ gb858)); replace HK := Aside0.mk (Kept.below (S := (fun k_ => P0_0_ k_)) (by repeat (first | (with_reducible first | exact HK.out | apply Kept.alloc | apply Kept.drewN | apply Kept.drew | refine Kept.setCell ?_ (.inr GW857.out) _) | exact HK.out)) hb); have GE858 := Aside0.mk ((by rw [hg]; exact (below_size (by repeat (first | (with_reducible first | exact HB.out | apply below_alloc | apply pw_below_drewN | apply below_drew1 | refine below_set ?_ GE857.out) | exact HB.out))) : w0.heap.size ≤ gb858)); replace HB := Aside0.mk (below_step (by repeat (first | (with_reducible first | exact HB.out | apply below_alloc | apply pw_below_drewN | apply below_drew1 | refine below_set ?_ GE857.out) | exact HB.out)) hb); have NB857_858 := Aside0.mk ((by rw [hg]; exact Nat.ne_of_lt (blk_lt (g := gb857) (o := .cells #[.slice Ao41 l0_0.length co41] 25 (0, 0)) BK857.out) : gb857 ≠ gb858)); have NB858_857 := Aside0.mk ((by rw [hg]; exact Nat.ne_of_gt (blk_lt (g := gb857) (o := .cells #[.slice Ao41 l0_0.length co41] 25 (0, 0)) BK857.out) : gb858 ≠ gb857)); replace BK857 := Aside0.mk (blk_below (g := gb857) (o := .cells #[.slice Ao41 l0_0.length co41] 25 (0, 0)) BK857.out hb); clear hb hbox hg) | ((with_reducible refine gate_dst (N := 4) rfl ?_); refine box_event ?hg (N := 4) ?hd (cs := #[.slice none 0 0]) (t := 25) ?hr ?_; (case hd => rfl); (case hg => rfl); (case hr => first | (go_simp; done) | (go_simp; rfl)); intro gb859 hg w44 hbox hb; replace HO0_0 := Aside0.mk (Kd.R_below HO0_0.out hb); have BK859 := Aside0.mk (hbox); have GW859 := Aside0.mk ((by rw [hg]; exact (by first | exact HK.out.1 | exact (show Kept w _ (fun k_ => P0_0_ k_) from by repeat (first | (with_reducible first | exact HK.out | apply Kept.alloc | apply Kept.drewN | apply Kept.drew | refine Kept.setCell ?_ (.inr GW857.out) _ | refine Kept.setCell ?_ (.inr GW858.out) _) | exact HK.out)).1) : w.heap.size ≤ gb859)); replace HK := Aside0.mk (Kept.below (S := (fun k_ => P0_0_ k_)) (by repeat (first | (with_reducible first | exact HK.out | apply Kept.alloc | apply Kept.drewN | apply Kept.drew | refine Kept.setCell ?_ (.inr GW857.out) _ | refine Kept.setCell ?_ (.inr GW858.out) _) | exact HK.out)) hb); have GE859 := Aside0.mk ((by rw [hg]; exact (below_size (by repeat (first | (with_reducible first | exact HB.out | apply below_alloc | apply pw_below_drewN | apply below_drew1 | refine below_set ?_ GE857.out | refine below_set ?_ GE858.out) | exact HB.out))) : w0.heap.size ≤ gb859)); replace HB := Aside0.mk (below_step (by repeat (first | (with_reducible first | exact HB.out | apply below_alloc | apply pw_below_drewN | apply below_drew1 | refine below_set ?_ GE857.out | refine below_set ?_ GE858.out) | exact HB.out)) hb); have NB857_859 := Aside0.mk ((by rw [hg]; exact Nat.ne_of_lt (blk_lt (g := gb857) (o := .cells #[.slice Ao41 l0_0.length co41] 25 (0, 0)) BK857.out) : gb857 ≠ gb859)); have NB859_857 := Aside0.mk ((by rw [hg]; exact Nat.ne_of_gt (blk_lt (g := gb857) (o := .cells #[.slice Ao41 l0_0.length co41] 25 (0, 0)) BK857.out) : gb859 ≠ gb857)); replace BK857 := Aside0.mk (blk_below (g := gb857) (o := .cells #[.slice Ao41 l0_0.length co41] 25 (0, 0)) BK857.out hb); have NB858_859 := Aside0.mk ((by rw [hg]; exact Nat.ne_of_lt (blk_lt (g := gb858) (o := .cells #[.slice A1_0 l1_0.length c1_0] 25 (0, 0)) BK858.out) : gb858 ≠ gb859)); have NB859_858 := Aside0.mk ((by rw [hg]; exact Nat.ne_of_gt (blk_lt (g := gb858) (o := .cells #[.slice A1_0 l1_0.length c1_0] 25 (0, 0)) BK858.out) : gb859 ≠ gb858)); replace BK858 := Aside0.mk (blk_below (g := gb858) (o := .cells #[.slice A1_0 l1_0.length c1_0] 25 (0, 0)) BK858.out hb); clear hb hbox hg) | ((with_reducible refine gate_dst (N := 5) rfl ?_); refine box_event ?hg (N := 5) ?hd (cs := #[.slice none 0 0]) (t := 25) ?hr ?_; (case hd => rfl); (case hg => rfl); (case hr => first | (go_simp; done) | (go_simp; rfl)); intro gb860 hg w45 hbox hb; replace HO0_0 := Aside0.mk (Kd.R_below HO0_0.out hb); have BK860 := Aside0.mk (hbox); have GW860 := Aside0.mk ((by rw [hg]; exact (by first | exact HK.out.1 | exact (show Kept w _ (fun k_ => P0_0_ k_) from by repeat (first | (with_reducible first | exact HK.out | apply Kept.alloc | apply Kept.drewN | apply Kept.drew | refine Kept.setCell ?_ (.inr GW857.out) _ | refine Kept.setCell ?_ (.inr GW858.out) _ | refine Kept.setCell ?_ (.inr GW859.out) _) | exact HK.out)).1) : w.heap.size ≤ gb860)); replace HK := Aside0.mk (Kept.below (S := (fun k_ => P0_0_ k_)) (by repeat (first | (with_reducible first | exact HK.out | apply Kept.alloc | apply Kept.drewN | apply Kept.drew | refine Kept.setCell ?_ (.inr GW857.out) _ | refine Kept.setCell ?_ (.inr GW858.out) _ | refine Kept.setCell ?_ (.inr GW859.out) _) | exact HK.out)) hb); have GE860 := Aside0.mk ((by rw [hg]; exact (below_size (by repeat (first | (with_reducible first | exact HB.out | apply below_alloc | apply pw_below_drewN | apply below_drew1 | refine below_set ?_ GE857.out | refine below_set ?_ GE858.out | refine below_set ?_ GE859.out) | exact HB.out))) : w0.heap.size ≤ gb860)); replace HB := Aside0.mk (below_step (by repeat (first | (with_reducible first | exact HB.out | apply below_alloc | apply pw_below_drewN | apply below_drew1 | refine below_set ?_ GE857.out | refine below_set ?_ GE858.out | refine below_set ?_ GE859.out) | exact HB.out)) hb); have NB857_860 := Aside0.mk ((by rw [hg]; exact Nat.ne_of_lt (blk_lt (g := gb857) (o := .cells #[.slice Ao41 l0_0.length co41] 25 (0, 0)) BK857.out) : gb857 ≠ gb860)); have NB860_857 := Aside0.mk ((by rw [hg]; exact Nat.ne_of_gt (blk_lt (g := gb857) (o := .cells #[.slice Ao41 l0_0.length co41] 25 (0, 0)) BK857.out) : gb860 ≠ gb857)); replace BK857 := Aside0.mk (blk_below (g := gb857) (o := .cells #[.slice Ao41 l0_0.length co41] 25 (0, 0)) BK857.out hb); have NB858_860 := Aside0.mk ((by rw [hg]; exact Nat.ne_of_lt (blk_lt (g := gb858) (o := .cells #[.slice A1_0 l1_0.length c1_0] 25 (0, 0)) BK858.out) : gb858 ≠ gb860)); have NB860_858 := Aside0.mk ((by rw [hg]; exact Nat.ne_of_gt (blk_lt (g := gb858) (o := .cells #[.slice A1_0 l1_0.length c1_0] 25 (0, 0)) BK858.out) : gb860 ≠ gb858)); replace BK858 := Aside0.mk (blk_below (g := gb858) (o := .cells #[.slice A1_0 l1_0.length c1_0] 25 (0, 0)) BK858.out hb); have NB859_860 := Aside0.mk ((by rw [hg]; exact Nat.ne_of_lt (blk_lt (g := gb859) (o := .cells #[.slice none 0 0] 25 (0, 0)) BK859.out) : gb859 ≠ gb860)); have NB860_859 := Aside0.mk ((by rw [hg]; exact Nat.ne_of_gt (blk_lt (g := gb859) (o := .cells #[.slice none 0 0] 25 (0, 0)) BK859.out) : gb860 ≠ gb859)); replace BK859 := Aside0.mk (blk_below (g := gb859) (o := .cells #[.slice none 0 0] 25 (0, 0)) BK859.out hb); clear hb hbox hg))
    replace HO0_0 := Aside0.mk (Kd.R_drew HO0_0.out)
    replace BK857 := Aside0.mk (blk_drew BK857.out)
    replace BK858 := Aside0.mk (blk_drew BK858.out)
    replace BK859 := Aside0.mk (blk_drew BK859.out)
    replace BK860 := Aside0.mk (blk_drew BK860.out)
    replace HK := Aside0.mk (Kept.drew HK.out)
    replace HB := Aside0.mk (below_drew1 HB.out)
    refine start_ (n := 6) (S := fun w' => w'.cell? ⟨gb857, 0, none⟩ = some (.slice Ao41 l0_0.length co41) ∧ w'.cell? ⟨gb858, 0, none⟩ = some (.slice A1_0 l1_0.length c1_0)) (ds := []) #[false, false, false, false, false, false] (by kernel_rfl) rfl rfl ⟨(blk_cell BK857.out 0).trans rfl, (blk_cell BK858.out 0).trans rfl⟩ (fun hHeld => ?_)
    generalize w45.drew = w46 at HO0_0 BK857 BK858 BK859 BK860 HK HB hHeld ⊢
    refine take_ (i := 0) (N := some 13) (v := ?_) (a' := ?_) #[true, false, false, false, false, false] rfl rfl (by kernel_rfl) (fun _ _ _ h => h) (Or.inl ⟨by rfl, ?_⟩) hHeld ?_ ?_
    rotate_left
    · rintro w' ⟨s0, s1⟩
      go_simp
      with_reducible rfl
    rotate_left
    · simp only [Act.put, List.setIfInBounds_toArray, List.set_cons_zero, List.set_cons_succ, i64_w, i32_w]
      rfl
    refine take_ (i := 2) (N := some 15) (v := ?_) (a' := ?_) #[true, false, true, false, false, false] rfl rfl (by kernel_rfl) (fun _ _ _ h => h) (Or.inl ⟨by rfl, ?_⟩) hHeld ?_ ?_
    rotate_left
    · rintro w' ⟨s0, s1⟩
      go_simp
      with_reducible rfl
    rotate_left
    · simp only [Act.put, List.setIfInBounds_toArray, List.set_cons_zero, List.set_cons_succ, i64_w, i32_w]
      rfl
    refine one_ (i := 1) (N := some 14) #[true, true, true, false, false, false] rfl rfl (by kernel_rfl) (by decide) (fun K hK => ?_)
    refine goes_ Try.func31 (by kernel_rfl) rfl #[.agg #[.slice Ao41 l0_0.length co41]] (by rfl) rfl rfl (by (try simp only [List.map_toArray, List.map_cons, List.map_nil]); first | done | rfl | (simp only [List.length_drop, List.length_take]; rfl)) ?_
    with_reducible refine (nat_Nat_Limbs.calls _ _ l0_0 t861 _ ?side1 ?side2 A3.out).mono ?_
    (case side1 => exact (Kd.R_reads' HO0_0.out).2.2)
    (case side2 => exact (Kd.R_reads' HO0_0.out).2.1)
    rintro e w47 ⟨v862, rfl, ho0, hb⟩
    refine ⟨_, rfl, ?_⟩
    have HO863 := Aside0.mk (Kd.R_lower (Kd.R_new' (Kd.R_newM (M := fun k_ => (P0_0_ k_ ∨ w.heap.size ≤ k_)) ho0 (by first | exact HK.out.1 | exact (show Kept w _ (fun k_ => P0_0_ k_) from by repeat (first | (with_reducible first | exact HK.out | apply Kept.alloc | apply Kept.drewN | apply Kept.drew | refine Kept.setCell ?_ (.inr GW857.out) _ | refine Kept.setCell ?_ (.inr GW858.out) _ | refine Kept.setCell ?_ (.inr GW859.out) _ | refine Kept.setCell ?_ (.inr GW860.out) _) | exact HK.out)).1) (fun k_ h_ => .inr h_)) (Kd.R_lt HO0_0.out)) (below_size (by repeat (first | (with_reducible first | exact HB.out | apply below_alloc | apply pw_below_drewN | apply below_drew1 | refine below_set ?_ GE857.out | refine below_set ?_ GE858.out | refine below_set ?_ GE859.out | refine below_set ?_ GE860.out) | exact HB.out))))
    replace HO0_0 := Aside0.mk (Kd.R_elder' HO0_0.out (Kd.R_base ho0) hb)
    replace BK857 := Aside0.mk (blk_below (g := gb857) (o := .cells #[.slice Ao41 l0_0.length co41] 25 (0, 0)) BK857.out hb)
    replace BK858 := Aside0.mk (blk_below (g := gb858) (o := .cells #[.slice A1_0 l1_0.length c1_0] 25 (0, 0)) BK858.out hb)
    replace BK859 := Aside0.mk (blk_below (g := gb859) (o := .cells #[.slice none 0 0] 25 (0, 0)) BK859.out hb)
    replace BK860 := Aside0.mk (blk_below (g := gb860) (o := .cells #[.slice none 0 0] 25 (0, 0)) BK860.out hb)
    replace HK := Aside0.mk (Kept.below (S := (fun k_ => P0_0_ k_)) (by repeat (first | (with_reducible first | exact HK.out | apply Kept.alloc | apply Kept.drewN | apply Kept.drew | refine Kept.setCell ?_ (.inr GW857.out) _ | refine Kept.setCell ?_ (.inr GW858.out) _ | refine Kept.setCell ?_ (.inr GW859.out) _ | refine Kept.setCell ?_ (.inr GW860.out) _) | exact HK.out)) hb)
    replace HB := Aside0.mk (below_step (by repeat (first | (with_reducible first | exact HB.out | apply below_alloc | apply pw_below_drewN | apply below_drew1 | refine below_set ?_ GE857.out | refine below_set ?_ GE858.out | refine below_set ?_ GE859.out | refine below_set ?_ GE860.out) | exact HB.out)) hb)
    (try clear hb)
    (try clear hb2)
    (try clear hk)
    (try clear hi)
    (try clear ho0)
    refine hK.out _ _ ⟨(blk_cell BK857.out 0).trans rfl, (blk_cell BK858.out 0).trans rfl⟩ (fun hHeld => ?_)
    clear hK K
    refine norm_ (a' := ?_) ?_ ?_
    rotate_left
    · show Act.put _ (some 14) _ = _
      simp only [Act.put, List.setIfInBounds_toArray, List.set_cons_zero, List.set_cons_succ, i64_w, i32_w]
      rfl
    refine one_ (i := 3) (N := some 16) #[true, true, true, true, false, false] rfl rfl (by kernel_rfl) (by decide) (fun K hK => ?_)
    refine goes_ Try.func31 (by kernel_rfl) rfl #[.agg #[.slice A1_0 l1_0.length c1_0]] (by rfl) rfl rfl (by (try simp only [List.map_toArray, List.map_cons, List.map_nil]); first | done | rfl | (simp only [List.length_drop, List.length_take]; rfl)) ?_
    with_reducible refine (nat_Nat_Limbs.calls _ _ l1_0 t864 _ ?side1 ?side2 A4.out).mono ?_
    (case side1 => exact Kd.C_kept_now HR1_0.out (by repeat (first | (with_reducible first | exact HK.out | apply Kept.alloc | apply Kept.drewN | apply Kept.drew | refine Kept.setCell ?_ (.inr GW857.out) _ | refine Kept.setCell ?_ (.inr GW858.out) _ | refine Kept.setCell ?_ (.inr GW859.out) _ | refine Kept.setCell ?_ (.inr GW860.out) _) | exact HK.out)))
    (case side2 => exact HC1_0.out)
    rintro e w48 ⟨v865, rfl, ho0, hb⟩
    refine ⟨_, rfl, ?_⟩
    have HO866 := Aside0.mk (Kd.R_lower (Kd.R_new' (Kd.R_new' (Kd.R_newM (M := fun k_ => (P0_0_ k_ ∨ w.heap.size ≤ k_)) ho0 (by first | exact HK.out.1 | exact (show Kept w _ (fun k_ => P0_0_ k_) from by repeat (first | (with_reducible first | exact HK.out | apply Kept.alloc | apply Kept.drewN | apply Kept.drew | refine Kept.setCell ?_ (.inr GW857.out) _ | refine Kept.setCell ?_ (.inr GW858.out) _ | refine Kept.setCell ?_ (.inr GW859.out) _ | refine Kept.setCell ?_ (.inr GW860.out) _) | exact HK.out)).1) (fun k_ h_ => .inr h_)) (Kd.R_lt HO0_0.out)) (Kd.R_lt HO863.out)) (below_size (by repeat (first | (with_reducible first | exact HB.out | apply below_alloc | apply pw_below_drewN | apply below_drew1 | refine below_set ?_ GE857.out | refine below_set ?_ GE858.out | refine below_set ?_ GE859.out | refine below_set ?_ GE860.out) | exact HB.out))))
    replace HO0_0 := Aside0.mk (Kd.R_elder' HO0_0.out (Kd.R_base ho0) hb)
    replace HO863 := Aside0.mk (Kd.R_elder' HO863.out (Kd.R_base ho0) hb)
    replace BK857 := Aside0.mk (blk_below (g := gb857) (o := .cells #[.slice Ao41 l0_0.length co41] 25 (0, 0)) BK857.out hb)
    replace BK858 := Aside0.mk (blk_below (g := gb858) (o := .cells #[.slice A1_0 l1_0.length c1_0] 25 (0, 0)) BK858.out hb)
    replace BK859 := Aside0.mk (blk_below (g := gb859) (o := .cells #[.slice none 0 0] 25 (0, 0)) BK859.out hb)
    replace BK860 := Aside0.mk (blk_below (g := gb860) (o := .cells #[.slice none 0 0] 25 (0, 0)) BK860.out hb)
    replace HK := Aside0.mk (Kept.below (S := (fun k_ => P0_0_ k_)) (by repeat (first | (with_reducible first | exact HK.out | apply Kept.alloc | apply Kept.drewN | apply Kept.drew | refine Kept.setCell ?_ (.inr GW857.out) _ | refine Kept.setCell ?_ (.inr GW858.out) _ | refine Kept.setCell ?_ (.inr GW859.out) _ | refine Kept.setCell ?_ (.inr GW860.out) _) | exact HK.out)) hb)
    replace HB := Aside0.mk (below_step (by repeat (first | (with_reducible first | exact HB.out | apply below_alloc | apply pw_below_drewN | apply below_drew1 | refine below_set ?_ GE857.out | refine below_set ?_ GE858.out | refine below_set ?_ GE859.out | refine below_set ?_ GE860.out) | exact HB.out)) hb)
    (try clear hb)
    (try clear hb2)
    (try clear hk)
    (try clear hi)
    (try clear ho0)
    refine hK.out _ _ ⟨(blk_cell BK857.out 0).trans rfl, (blk_cell BK858.out 0).trans rfl⟩ (fun hHeld => ?_)
    clear hK K
    refine norm_ (a' := ?_) ?_ ?_
    rotate_left
    · show Act.put _ (some 16) _ = _
      simp only [Act.put, List.setIfInBounds_toArray, List.set_cons_zero, List.set_cons_succ, i64_w, i32_w]
      rfl
    refine pure_ (i := 4) (N := some 7) (v := ?_) (a' := ?_) #[true, true, true, true, true, false] rfl rfl (by kernel_rfl) (fun _ _ _ h => h) (Or.inl ⟨by rfl, ?_⟩) ?_ ?_
    rotate_left
    · intro w'
      go_simp
      with_reducible rfl
    rotate_left
    · simp only [Act.put, List.setIfInBounds_toArray, List.set_cons_zero, List.set_cons_succ, i64_w, i32_w]
      rfl
    refine pure_ (i := 5) (N := some 8) (v := ?_) (a' := ?_) #[true, true, true, true, true, true] rfl rfl (by kernel_rfl) (fun _ _ _ h => h) (Or.inl ⟨by rfl, ?_⟩) ?_ ?_
    rotate_left
    · intro w'
      go_simp
      with_reducible rfl
    rotate_left
    · simp only [Act.put, List.setIfInBounds_toArray, List.set_cons_zero, List.set_cons_succ, i64_w, i32_w]
      rfl
    refine done_ (by kernel_rfl) ?_
    obtain ⟨Ao49, co49, eo49⟩ := Kd.R_slice HO866.out
    subst eo49
    obtain ⟨Ao50, co50, eo50⟩ := Kd.R_slice HO863.out
    subst eo50
    have p867 : 0 ≤ (0 : Int) := (by omega)
    have q867 : 0 < (t864.length : Int) := of_decide_eq_true (by assumption)
    obtain ⟨ad867, e867, hx867_0⟩ := Kd.at_int (Kd.R_reads' HO866.out).2.2 0 p867 q867
    cases e867
    have qi867 : (0 < t864.length) = True := eq_true (by omega)
    (try rw [show ((0 : Int)).toNat = 0 from rfl] at hx867_0)
    (try rw [Addr.add_zero'] at hx867_0)
    replace p867 := eq_true p867
    replace q867 := eq_true q867
    try go_wp2_with (first | ((with_reducible refine gate_callee (f := 57) rfl ?_); refine goesL_ (some 40) rfl rfl Try.func57 (by kernel_rfl) rfl #[.slice Ao50 t861.length co50, .int .u32 (rd t864 0)] rfl (by (try simp only [List.map_toArray, List.map_cons, List.map_nil]); first | done | rfl | (simp only [List.length_drop, List.length_take]; rfl)) ?_; (with_reducible refine (quot_small.calls k _ _ t861 (rd t864 0) t868 t869 _ ?side1 ?side2 A38.out).mono ?_); (case side1 => exact (Kd.R_reads' HO863.out).2.2); (case side2 => exact (Kd.R_reads' HO863.out).2.1); rintro e w51 ⟨v870, rfl, ho0, hb⟩; refine ⟨_, rfl, ?_⟩; have HO871 := Aside0.mk (Kd.R_lower (Kd.R_new' (Kd.R_new' (Kd.R_new' (Kd.R_newM (M := fun k_ => (P0_0_ k_ ∨ w.heap.size ≤ k_)) ho0 (by first | exact HK.out.1 | exact (show Kept w _ (fun k_ => P0_0_ k_) from by repeat (first | (with_reducible first | exact HK.out | apply Kept.alloc | apply Kept.drewN | apply Kept.drew | refine Kept.setCell ?_ (.inr GW857.out) _ | refine Kept.setCell ?_ (.inr GW858.out) _ | refine Kept.setCell ?_ (.inr GW859.out) _ | refine Kept.setCell ?_ (.inr GW860.out) _) | exact HK.out)).1) (fun k_ h_ => .inr h_)) (Kd.R_lt HO0_0.out)) (Kd.R_lt HO863.out)) (Kd.R_lt HO866.out)) (below_size (by repeat (first | (with_reducible first | exact HB.out | apply below_alloc | apply pw_below_drewN | apply below_drew1 | refine below_set ?_ GE857.out | refine below_set ?_ GE858.out | refine below_set ?_ GE859.out | refine below_set ?_ GE860.out) | exact HB.out)))); replace HO0_0 := Aside0.mk (Kd.R_elder' HO0_0.out (Kd.R_base ho0) hb); replace HO863 := Aside0.mk (Kd.R_elder' HO863.out (Kd.R_base ho0) hb); replace HO866 := Aside0.mk (Kd.R_elder' HO866.out (Kd.R_base ho0) hb); replace BK857 := Aside0.mk (blk_below (g := gb857) (o := .cells #[.slice Ao41 l0_0.length co41] 25 (0, 0)) BK857.out hb); replace BK858 := Aside0.mk (blk_below (g := gb858) (o := .cells #[.slice A1_0 l1_0.length c1_0] 25 (0, 0)) BK858.out hb); replace BK859 := Aside0.mk (blk_below (g := gb859) (o := .cells #[.slice none 0 0] 25 (0, 0)) BK859.out hb); replace BK860 := Aside0.mk (blk_below (g := gb860) (o := .cells #[.slice none 0 0] 25 (0, 0)) BK860.out hb); replace HK := Aside0.mk (Kept.below (S := (fun k_ => P0_0_ k_)) (by repeat (first | (with_reducible first | exact HK.out | apply Kept.alloc | apply Kept.drewN | apply Kept.drew | refine Kept.setCell ?_ (.inr GW857.out) _ | refine Kept.setCell ?_ (.inr GW858.out) _ | refine Kept.setCell ?_ (.inr GW859.out) _ | refine Kept.setCell ?_ (.inr GW860.out) _) | exact HK.out)) hb); replace HB := Aside0.mk (below_step (by repeat (first | (with_reducible first | exact HB.out | apply below_alloc | apply pw_below_drewN | apply below_drew1 | refine below_set ?_ GE857.out | refine below_set ?_ GE858.out | refine below_set ?_ GE859.out | refine below_set ?_ GE860.out) | exact HB.out)) hb); obtain ⟨Ao52, co52, eo52⟩ := Kd.R_slice HO871.out; subst eo52) | ((with_reducible refine gate_callee (f := 16) rfl ?_); refine goesL_ (some 44) rfl rfl Try.func16 (by kernel_rfl) rfl #[.slice Ao52 t868.length co52] rfl (by (try simp only [List.map_toArray, List.map_cons, List.map_nil]); first | done | rfl | (simp only [List.length_drop, List.length_take]; rfl)) ?_; (with_reducible refine (nat_Made.calls k _ _ t868 t872 _ ?side1 ?side2 A39.out).mono ?_); (case side1 => exact (Kd.R_reads' HO871.out).2.2); (case side2 => exact (Kd.R_reads' HO871.out).2.1); rintro e w53 ⟨v873, rfl, ho0, hb⟩; refine ⟨_, rfl, ?_⟩; have HO874 := Aside0.mk (Kd.R_lower (Kd.R_new' (Kd.R_new' (Kd.R_new' (Kd.R_new' (Kd.R_newM (M := fun k_ => (P0_0_ k_ ∨ w.heap.size ≤ k_)) ho0 (by first | exact HK.out.1 | exact (show Kept w _ (fun k_ => P0_0_ k_) from by repeat (first | (with_reducible first | exact HK.out | apply Kept.alloc | apply Kept.drewN | apply Kept.drew | refine Kept.setCell ?_ (.inr GW857.out) _ | refine Kept.setCell ?_ (.inr GW858.out) _ | refine Kept.setCell ?_ (.inr GW859.out) _ | refine Kept.setCell ?_ (.inr GW860.out) _) | exact HK.out)).1) (fun k_ h_ => .inr h_)) (Kd.R_lt HO0_0.out)) (Kd.R_lt HO863.out)) (Kd.R_lt HO866.out)) (Kd.R_lt HO871.out)) (below_size (by repeat (first | (with_reducible first | exact HB.out | apply below_alloc | apply pw_below_drewN | apply below_drew1 | refine below_set ?_ GE857.out | refine below_set ?_ GE858.out | refine below_set ?_ GE859.out | refine below_set ?_ GE860.out) | exact HB.out)))); replace HO0_0 := Aside0.mk (Kd.R_elder' HO0_0.out (Kd.R_base ho0) hb); replace HO863 := Aside0.mk (Kd.R_elder' HO863.out (Kd.R_base ho0) hb); replace HO866 := Aside0.mk (Kd.R_elder' HO866.out (Kd.R_base ho0) hb); replace HO871 := Aside0.mk (Kd.R_elder' HO871.out (Kd.R_base ho0) hb); replace BK857 := Aside0.mk (blk_below (g := gb857) (o := .cells #[.slice Ao41 l0_0.length co41] 25 (0, 0)) BK857.out hb); replace BK858 := Aside0.mk (blk_below (g := gb858) (o := .cells #[.slice A1_0 l1_0.length c1_0] 25 (0, 0)) BK858.out hb); replace BK859 := Aside0.mk (blk_below (g := gb859) (o := .cells #[.slice none 0 0] 25 (0, 0)) BK859.out hb); replace BK860 := Aside0.mk (blk_below (g := gb860) (o := .cells #[.slice none 0 0] 25 (0, 0)) BK860.out hb); replace HK := Aside0.mk (Kept.below (S := (fun k_ => P0_0_ k_)) (by repeat (first | (with_reducible first | exact HK.out | apply Kept.alloc | apply Kept.drewN | apply Kept.drew | refine Kept.setCell ?_ (.inr GW857.out) _ | refine Kept.setCell ?_ (.inr GW858.out) _ | refine Kept.setCell ?_ (.inr GW859.out) _ | refine Kept.setCell ?_ (.inr GW860.out) _) | exact HK.out)) hb); replace HB := Aside0.mk (below_step (by repeat (first | (with_reducible first | exact HB.out | apply below_alloc | apply pw_below_drewN | apply below_drew1 | refine below_set ?_ GE857.out | refine below_set ?_ GE858.out | refine below_set ?_ GE859.out | refine below_set ?_ GE860.out) | exact HB.out)) hb)) | ((with_reducible refine gate_callee (f := 26) rfl ?_); refine goesL_ (some 47) rfl rfl Try.func26 (by kernel_rfl) rfl #[.int .u64 (IntKind.u64.wrap (t869))] rfl (by (try simp only [List.map_toArray, List.map_cons, List.map_nil]); first | done | rfl | (simp only [List.length_drop, List.length_take]; rfl)) ?_; (with_reducible refine (nat_Of.calls k (IntKind.u64.wrap (t869)) t875 _ A40.out).mono ?_); rintro e w54 ⟨v876, rfl, ho0, hb⟩; refine ⟨_, rfl, ?_⟩; have HO877 := Aside0.mk (Kd.R_lower (Kd.R_new' (Kd.R_new' (Kd.R_new' (Kd.R_new' (Kd.R_new' (Kd.R_newM (M := fun k_ => (P0_0_ k_ ∨ w.heap.size ≤ k_)) ho0 (by first | exact HK.out.1 | exact (show Kept w _ (fun k_ => P0_0_ k_) from by repeat (first | (with_reducible first | exact HK.out | apply Kept.alloc | apply Kept.drewN | apply Kept.drew | refine Kept.setCell ?_ (.inr GW857.out) _ | refine Kept.setCell ?_ (.inr GW858.out) _ | refine Kept.setCell ?_ (.inr GW859.out) _ | refine Kept.setCell ?_ (.inr GW860.out) _) | exact HK.out)).1) (fun k_ h_ => .inr h_)) (Kd.R_lt HO0_0.out)) (Kd.R_lt HO863.out)) (Kd.R_lt HO866.out)) (Kd.R_lt HO871.out)) (Kd.R_lt HO874.out)) (below_size (by repeat (first | (with_reducible first | exact HB.out | apply below_alloc | apply pw_below_drewN | apply below_drew1 | refine below_set ?_ GE857.out | refine below_set ?_ GE858.out | refine below_set ?_ GE859.out | refine below_set ?_ GE860.out) | exact HB.out)))); replace HO0_0 := Aside0.mk (Kd.R_elder' HO0_0.out (Kd.R_base ho0) hb); replace HO863 := Aside0.mk (Kd.R_elder' HO863.out (Kd.R_base ho0) hb); replace HO866 := Aside0.mk (Kd.R_elder' HO866.out (Kd.R_base ho0) hb); replace HO871 := Aside0.mk (Kd.R_elder' HO871.out (Kd.R_base ho0) hb); replace HO874 := Aside0.mk (Kd.R_elder' HO874.out (Kd.R_base ho0) hb); replace BK857 := Aside0.mk (blk_below (g := gb857) (o := .cells #[.slice Ao41 l0_0.length co41] 25 (0, 0)) BK857.out hb); replace BK858 := Aside0.mk (blk_below (g := gb858) (o := .cells #[.slice A1_0 l1_0.length c1_0] 25 (0, 0)) BK858.out hb); replace BK859 := Aside0.mk (blk_below (g := gb859) (o := .cells #[.slice none 0 0] 25 (0, 0)) BK859.out hb); replace BK860 := Aside0.mk (blk_below (g := gb860) (o := .cells #[.slice none 0 0] 25 (0, 0)) BK860.out hb); replace HK := Aside0.mk (Kept.below (S := (fun k_ => P0_0_ k_)) (by repeat (first | (with_reducible first | exact HK.out | apply Kept.alloc | apply Kept.drewN | apply Kept.drew | refine Kept.setCell ?_ (.inr GW857.out) _ | refine Kept.setCell ?_ (.inr GW858.out) _ | refine Kept.setCell ?_ (.inr GW859.out) _ | refine Kept.setCell ?_ (.inr GW860.out) _) | exact HK.out)) hb); replace HB := Aside0.mk (below_step (by repeat (first | (with_reducible first | exact HB.out | apply below_alloc | apply pw_below_drewN | apply below_drew1 | refine below_set ?_ GE857.out | refine below_set ?_ GE858.out | refine below_set ?_ GE859.out | refine below_set ?_ GE860.out) | exact HB.out)) hb); obtain ⟨Ao55, co55, eo55⟩ := Kd.R_slice HO874.out; subst eo55; have hnb56 := NB859_857.out; have hnc56 := NB857_859.out; have hnb57 := NB859_858.out; have hnc57 := NB858_859.out; have hnb58 := NB859_860.out; have hnc58 := NB860_859.out; have hcz59_0 : w54.cell? ⟨gb859, 0, none⟩ = some (.slice none 0 0) := (blk_cell BK859.out 0).trans rfl; have hfz59_0 := blk_frozen BK859.out 0; obtain ⟨Ao60, co60, eo60⟩ := Kd.R_slice HO877.out; subst eo60; have hnb61 := NB860_857.out; have hnc61 := NB857_860.out; have hnb62 := NB860_858.out; have hnc62 := NB858_860.out; have hcz63_0 : w54.cell? ⟨gb860, 0, none⟩ = some (.slice none 0 0) := (blk_cell BK860.out 0).trans rfl; have hfz63_0 := blk_frozen BK860.out 0))
    refine bodyPost_ret (results_list (rs := [.cell 4 25, .cell 5 25, .tmp 6]) rfl (by simp) (.cell gb859 25 #[.slice Ao55 t872.length co55] (0, 0) _ rfl (by (with_reducible repeat (first | refine blk_drewN ?_ _ | refine blk_drew ?_ | refine blk_alloc ?_ _)); refine blk_far ?_ NB859_860.out _; (with_reducible repeat (first | refine blk_drewN ?_ _ | refine blk_drew ?_ | refine blk_alloc ?_ _)); refine blk_put (cs := #[.slice none 0 0]) ?_ 0 _ rfl; (with_reducible repeat (first | refine blk_drewN ?_ _ | refine blk_drew ?_ | refine blk_alloc ?_ _)); exact BK859.out) Try.underlying25 rfl (by kernel_rfl) (.cell gb860 25 #[.slice Ao60 t875.length co60] (0, 0) _ rfl (by (with_reducible repeat (first | refine blk_drewN ?_ _ | refine blk_drew ?_ | refine blk_alloc ?_ _)); refine blk_put (cs := #[.slice none 0 0]) ?_ 0 _ rfl; (with_reducible repeat (first | refine blk_drewN ?_ _ | refine blk_drew ?_ | refine blk_alloc ?_ _)); refine blk_far ?_ NB860_859.out _; (with_reducible repeat (first | refine blk_drewN ?_ _ | refine blk_drew ?_ | refine blk_alloc ?_ _)); exact BK860.out) Try.underlying25 rfl (by kernel_rfl) (.tmp .nil)))) rfl ?_
    exact ⟨_, _, rfl, by exact Kd.R_mono (Kd.R_far (p := ⟨gb860, 0, none⟩) (Kd.R_far (p := ⟨gb859, 0, none⟩) (Kd.R_types (Kd.R_types HO874.out BK859.out (by decide)) BK860.out (by decide)) (fun _ hk => hk.1.2) (.slice Ao55 t872.length co55)) (fun _ hk => hk.2) (.slice Ao60 t875.length co60)) (fun _ hk => ⟨hk.1.1.1.1.1.1.1.1, hk.1.1.2⟩), by exact Kd.R_mono (Kd.R_far (p := ⟨gb860, 0, none⟩) (Kd.R_far (p := ⟨gb859, 0, none⟩) (Kd.R_types (Kd.R_types HO877.out BK859.out (by decide)) BK860.out (by decide)) (fun _ hk => hk.1.2) (.slice Ao55 t872.length co55)) (fun _ hk => hk.2) (.slice Ao60 t875.length co60)) (fun _ hk => ⟨hk.1.1.1.1.1.1.1.1, hk.1.1.2⟩), by repeat (first | (with_reducible first | exact HB.out | apply below_alloc | apply pw_below_drewN | apply below_drew1 | refine below_set ?_ GE857.out | refine below_set ?_ GE858.out | refine below_set ?_ GE859.out | refine below_set ?_ GE860.out) | exact HB.out), by repeat (first | (with_reducible first | exact HK.out | apply Kept.alloc | apply Kept.drewN | apply Kept.drew | refine Kept.setCell ?_ (.inr GW857.out) _ | refine Kept.setCell ?_ (.inr GW858.out) _ | refine Kept.setCell ?_ (.inr GW859.out) _ | refine Kept.setCell ?_ (.inr GW860.out) _) | exact HK.out)⟩
  rw [if_neg c36] at H
  have c36b0 : ((t864.length : Int) == 1) = false := beq_eq_false_iff_ne.mpr c36
  have c36b1 : ((t864.length : Int) != 1) = true := bne_iff_ne.mpr c36
  replace H := Option.bind_eq_some_iff.mp H
  obtain ⟨⟨t878, t879⟩, A640, H⟩ := H
  have A64 := Aside0.mk A640
  clear A640
  replace H := Option.bind_eq_some_iff.mp H
  obtain ⟨t884, A650, H⟩ := H
  have A65 := Aside0.mk A650
  clear A650
  replace H := Option.bind_eq_some_iff.mp H
  obtain ⟨t887, A660, H⟩ := H
  have A66 := Aside0.mk A660
  clear A660
  simp only [Option.some.injEq, Prod.mk.injEq] at H
  obtain ⟨rfl, rfl, rfl⟩ := H
  obtain ⟨Ao67, co67, eo67⟩ := Kd.R_slice HO0_0.out
  subst eo67
  go_enter Try.func42, Try.ntmps42
  try go_wp2_with (first | ((with_reducible refine gate_dst (N := 2) rfl ?_); refine box_event ?hg (N := 2) ?hd (cs := #[.slice Ao67 l0_0.length co67]) (t := 25) ?hr ?_; (case hd => rfl); (case hg => rfl); (case hr => first | (go_simp; done) | (go_simp; rfl)); intro gb857 hg w68 hbox hb; replace HO0_0 := Aside0.mk (Kd.R_below HO0_0.out hb); have BK857 := Aside0.mk (hbox); have GW857 := Aside0.mk ((by rw [hg]; exact (by first | exact HK.out.1 | exact (show Kept w _ (fun k_ => P0_0_ k_) from by repeat (first | (with_reducible first | exact HK.out | apply Kept.alloc | apply Kept.drewN | apply Kept.drew) | exact HK.out)).1) : w.heap.size ≤ gb857)); replace HK := Aside0.mk (Kept.below (S := (fun k_ => P0_0_ k_)) (by repeat (first | (with_reducible first | exact HK.out | apply Kept.alloc | apply Kept.drewN | apply Kept.drew) | exact HK.out)) hb); have GE857 := Aside0.mk ((by rw [hg]; exact (below_size (by repeat (first | (with_reducible first | exact HB.out | apply below_alloc | apply pw_below_drewN | apply below_drew1) | exact HB.out))) : w0.heap.size ≤ gb857)); replace HB := Aside0.mk (below_step (by repeat (first | (with_reducible first | exact HB.out | apply below_alloc | apply pw_below_drewN | apply below_drew1) | exact HB.out)) hb); clear hb hbox hg) | ((with_reducible refine gate_dst (N := 3) rfl ?_); refine box_event ?hg (N := 3) ?hd (cs := #[.slice A1_0 l1_0.length c1_0]) (t := 25) ?hr ?_; (case hd => rfl); (case hg => rfl); (case hr => first | (go_simp; done) | (go_simp; rfl)); intro gb858 hg w69 hbox hb; replace HO0_0 := Aside0.mk (Kd.R_below HO0_0.out hb); have BK858 := Aside0.mk (hbox); have GW858 := Aside0.mk ((by rw [hg]; exact (by first | exact HK.out.1 | exact (show Kept w _ (fun k_ => P0_0_ k_) from by repeat (first | (with_reducible first | exact HK.out | apply Kept.alloc | apply Kept.drewN | apply Kept.drew | refine Kept.setCell ?_ (.inr GW857.out) _) | exact HK.out)).1) : w.heap.size ≤ gb858)); replace HK := Aside0.mk (Kept.below (S := (fun k_ => P0_0_ k_)) (by repeat (first | (with_reducible first | exact HK.out | apply Kept.alloc | apply Kept.drewN | apply Kept.drew | refine Kept.setCell ?_ (.inr GW857.out) _) | exact HK.out)) hb); have GE858 := Aside0.mk ((by rw [hg]; exact (below_size (by repeat (first | (with_reducible first | exact HB.out | apply below_alloc | apply pw_below_drewN | apply below_drew1 | refine below_set ?_ GE857.out) | exact HB.out))) : w0.heap.size ≤ gb858)); replace HB := Aside0.mk (below_step (by repeat (first | (with_reducible first | exact HB.out | apply below_alloc | apply pw_below_drewN | apply below_drew1 | refine below_set ?_ GE857.out) | exact HB.out)) hb); have NB857_858 := Aside0.mk ((by rw [hg]; exact Nat.ne_of_lt (blk_lt (g := gb857) (o := .cells #[.slice Ao67 l0_0.length co67] 25 (0, 0)) BK857.out) : gb857 ≠ gb858)); have NB858_857 := Aside0.mk ((by rw [hg]; exact Nat.ne_of_gt (blk_lt (g := gb857) (o := .cells #[.slice Ao67 l0_0.length co67] 25 (0, 0)) BK857.out) : gb858 ≠ gb857)); replace BK857 := Aside0.mk (blk_below (g := gb857) (o := .cells #[.slice Ao67 l0_0.length co67] 25 (0, 0)) BK857.out hb); clear hb hbox hg) | ((with_reducible refine gate_dst (N := 4) rfl ?_); refine box_event ?hg (N := 4) ?hd (cs := #[.slice none 0 0]) (t := 25) ?hr ?_; (case hd => rfl); (case hg => rfl); (case hr => first | (go_simp; done) | (go_simp; rfl)); intro gb859 hg w70 hbox hb; replace HO0_0 := Aside0.mk (Kd.R_below HO0_0.out hb); have BK859 := Aside0.mk (hbox); have GW859 := Aside0.mk ((by rw [hg]; exact (by first | exact HK.out.1 | exact (show Kept w _ (fun k_ => P0_0_ k_) from by repeat (first | (with_reducible first | exact HK.out | apply Kept.alloc | apply Kept.drewN | apply Kept.drew | refine Kept.setCell ?_ (.inr GW857.out) _ | refine Kept.setCell ?_ (.inr GW858.out) _) | exact HK.out)).1) : w.heap.size ≤ gb859)); replace HK := Aside0.mk (Kept.below (S := (fun k_ => P0_0_ k_)) (by repeat (first | (with_reducible first | exact HK.out | apply Kept.alloc | apply Kept.drewN | apply Kept.drew | refine Kept.setCell ?_ (.inr GW857.out) _ | refine Kept.setCell ?_ (.inr GW858.out) _) | exact HK.out)) hb); have GE859 := Aside0.mk ((by rw [hg]; exact (below_size (by repeat (first | (with_reducible first | exact HB.out | apply below_alloc | apply pw_below_drewN | apply below_drew1 | refine below_set ?_ GE857.out | refine below_set ?_ GE858.out) | exact HB.out))) : w0.heap.size ≤ gb859)); replace HB := Aside0.mk (below_step (by repeat (first | (with_reducible first | exact HB.out | apply below_alloc | apply pw_below_drewN | apply below_drew1 | refine below_set ?_ GE857.out | refine below_set ?_ GE858.out) | exact HB.out)) hb); have NB857_859 := Aside0.mk ((by rw [hg]; exact Nat.ne_of_lt (blk_lt (g := gb857) (o := .cells #[.slice Ao67 l0_0.length co67] 25 (0, 0)) BK857.out) : gb857 ≠ gb859)); have NB859_857 := Aside0.mk ((by rw [hg]; exact Nat.ne_of_gt (blk_lt (g := gb857) (o := .cells #[.slice Ao67 l0_0.length co67] 25 (0, 0)) BK857.out) : gb859 ≠ gb857)); replace BK857 := Aside0.mk (blk_below (g := gb857) (o := .cells #[.slice Ao67 l0_0.length co67] 25 (0, 0)) BK857.out hb); have NB858_859 := Aside0.mk ((by rw [hg]; exact Nat.ne_of_lt (blk_lt (g := gb858) (o := .cells #[.slice A1_0 l1_0.length c1_0] 25 (0, 0)) BK858.out) : gb858 ≠ gb859)); have NB859_858 := Aside0.mk ((by rw [hg]; exact Nat.ne_of_gt (blk_lt (g := gb858) (o := .cells #[.slice A1_0 l1_0.length c1_0] 25 (0, 0)) BK858.out) : gb859 ≠ gb858)); replace BK858 := Aside0.mk (blk_below (g := gb858) (o := .cells #[.slice A1_0 l1_0.length c1_0] 25 (0, 0)) BK858.out hb); clear hb hbox hg) | ((with_reducible refine gate_dst (N := 5) rfl ?_); refine box_event ?hg (N := 5) ?hd (cs := #[.slice none 0 0]) (t := 25) ?hr ?_; (case hd => rfl); (case hg => rfl); (case hr => first | (go_simp; done) | (go_simp; rfl)); intro gb860 hg w71 hbox hb; replace HO0_0 := Aside0.mk (Kd.R_below HO0_0.out hb); have BK860 := Aside0.mk (hbox); have GW860 := Aside0.mk ((by rw [hg]; exact (by first | exact HK.out.1 | exact (show Kept w _ (fun k_ => P0_0_ k_) from by repeat (first | (with_reducible first | exact HK.out | apply Kept.alloc | apply Kept.drewN | apply Kept.drew | refine Kept.setCell ?_ (.inr GW857.out) _ | refine Kept.setCell ?_ (.inr GW858.out) _ | refine Kept.setCell ?_ (.inr GW859.out) _) | exact HK.out)).1) : w.heap.size ≤ gb860)); replace HK := Aside0.mk (Kept.below (S := (fun k_ => P0_0_ k_)) (by repeat (first | (with_reducible first | exact HK.out | apply Kept.alloc | apply Kept.drewN | apply Kept.drew | refine Kept.setCell ?_ (.inr GW857.out) _ | refine Kept.setCell ?_ (.inr GW858.out) _ | refine Kept.setCell ?_ (.inr GW859.out) _) | exact HK.out)) hb); have GE860 := Aside0.mk ((by rw [hg]; exact (below_size (by repeat (first | (with_reducible first | exact HB.out | apply below_alloc | apply pw_below_drewN | apply below_drew1 | refine below_set ?_ GE857.out | refine below_set ?_ GE858.out | refine below_set ?_ GE859.out) | exact HB.out))) : w0.heap.size ≤ gb860)); replace HB := Aside0.mk (below_step (by repeat (first | (with_reducible first | exact HB.out | apply below_alloc | apply pw_below_drewN | apply below_drew1 | refine below_set ?_ GE857.out | refine below_set ?_ GE858.out | refine below_set ?_ GE859.out) | exact HB.out)) hb); have NB857_860 := Aside0.mk ((by rw [hg]; exact Nat.ne_of_lt (blk_lt (g := gb857) (o := .cells #[.slice Ao67 l0_0.length co67] 25 (0, 0)) BK857.out) : gb857 ≠ gb860)); have NB860_857 := Aside0.mk ((by rw [hg]; exact Nat.ne_of_gt (blk_lt (g := gb857) (o := .cells #[.slice Ao67 l0_0.length co67] 25 (0, 0)) BK857.out) : gb860 ≠ gb857)); replace BK857 := Aside0.mk (blk_below (g := gb857) (o := .cells #[.slice Ao67 l0_0.length co67] 25 (0, 0)) BK857.out hb); have NB858_860 := Aside0.mk ((by rw [hg]; exact Nat.ne_of_lt (blk_lt (g := gb858) (o := .cells #[.slice A1_0 l1_0.length c1_0] 25 (0, 0)) BK858.out) : gb858 ≠ gb860)); have NB860_858 := Aside0.mk ((by rw [hg]; exact Nat.ne_of_gt (blk_lt (g := gb858) (o := .cells #[.slice A1_0 l1_0.length c1_0] 25 (0, 0)) BK858.out) : gb860 ≠ gb858)); replace BK858 := Aside0.mk (blk_below (g := gb858) (o := .cells #[.slice A1_0 l1_0.length c1_0] 25 (0, 0)) BK858.out hb); have NB859_860 := Aside0.mk ((by rw [hg]; exact Nat.ne_of_lt (blk_lt (g := gb859) (o := .cells #[.slice none 0 0] 25 (0, 0)) BK859.out) : gb859 ≠ gb860)); have NB860_859 := Aside0.mk ((by rw [hg]; exact Nat.ne_of_gt (blk_lt (g := gb859) (o := .cells #[.slice none 0 0] 25 (0, 0)) BK859.out) : gb860 ≠ gb859)); replace BK859 := Aside0.mk (blk_below (g := gb859) (o := .cells #[.slice none 0 0] 25 (0, 0)) BK859.out hb); clear hb hbox hg))
  replace HO0_0 := Aside0.mk (Kd.R_drew HO0_0.out)
  replace BK857 := Aside0.mk (blk_drew BK857.out)
  replace BK858 := Aside0.mk (blk_drew BK858.out)
  replace BK859 := Aside0.mk (blk_drew BK859.out)
  replace BK860 := Aside0.mk (blk_drew BK860.out)
  replace HK := Aside0.mk (Kept.drew HK.out)
  replace HB := Aside0.mk (below_drew1 HB.out)
  refine start_ (n := 6) (S := fun w' => w'.cell? ⟨gb857, 0, none⟩ = some (.slice Ao67 l0_0.length co67) ∧ w'.cell? ⟨gb858, 0, none⟩ = some (.slice A1_0 l1_0.length c1_0)) (ds := []) #[false, false, false, false, false, false] (by kernel_rfl) rfl rfl ⟨(blk_cell BK857.out 0).trans rfl, (blk_cell BK858.out 0).trans rfl⟩ (fun hHeld => ?_)
  generalize w71.drew = w72 at HO0_0 BK857 BK858 BK859 BK860 HK HB hHeld ⊢
  refine take_ (i := 0) (N := some 13) (v := ?_) (a' := ?_) #[true, false, false, false, false, false] rfl rfl (by kernel_rfl) (fun _ _ _ h => h) (Or.inl ⟨by rfl, ?_⟩) hHeld ?_ ?_
  rotate_left
  · rintro w' ⟨s0, s1⟩
    go_simp
    with_reducible rfl
  rotate_left
  · simp only [Act.put, List.setIfInBounds_toArray, List.set_cons_zero, List.set_cons_succ, i64_w, i32_w]
    rfl
  refine take_ (i := 2) (N := some 15) (v := ?_) (a' := ?_) #[true, false, true, false, false, false] rfl rfl (by kernel_rfl) (fun _ _ _ h => h) (Or.inl ⟨by rfl, ?_⟩) hHeld ?_ ?_
  rotate_left
  · rintro w' ⟨s0, s1⟩
    go_simp
    with_reducible rfl
  rotate_left
  · simp only [Act.put, List.setIfInBounds_toArray, List.set_cons_zero, List.set_cons_succ, i64_w, i32_w]
    rfl
  refine one_ (i := 1) (N := some 14) #[true, true, true, false, false, false] rfl rfl (by kernel_rfl) (by decide) (fun K hK => ?_)
  refine goes_ Try.func31 (by kernel_rfl) rfl #[.agg #[.slice Ao67 l0_0.length co67]] (by rfl) rfl rfl (by (try simp only [List.map_toArray, List.map_cons, List.map_nil]); first | done | rfl | (simp only [List.length_drop, List.length_take]; rfl)) ?_
  with_reducible refine (nat_Nat_Limbs.calls _ _ l0_0 t861 _ ?side1 ?side2 A3.out).mono ?_
  (case side1 => exact (Kd.R_reads' HO0_0.out).2.2)
  (case side2 => exact (Kd.R_reads' HO0_0.out).2.1)
  rintro e w73 ⟨v862, rfl, ho0, hb⟩
  refine ⟨_, rfl, ?_⟩
  have HO863 := Aside0.mk (Kd.R_lower (Kd.R_new' (Kd.R_newM (M := fun k_ => (P0_0_ k_ ∨ w.heap.size ≤ k_)) ho0 (by first | exact HK.out.1 | exact (show Kept w _ (fun k_ => P0_0_ k_) from by repeat (first | (with_reducible first | exact HK.out | apply Kept.alloc | apply Kept.drewN | apply Kept.drew | refine Kept.setCell ?_ (.inr GW857.out) _ | refine Kept.setCell ?_ (.inr GW858.out) _ | refine Kept.setCell ?_ (.inr GW859.out) _ | refine Kept.setCell ?_ (.inr GW860.out) _) | exact HK.out)).1) (fun k_ h_ => .inr h_)) (Kd.R_lt HO0_0.out)) (below_size (by repeat (first | (with_reducible first | exact HB.out | apply below_alloc | apply pw_below_drewN | apply below_drew1 | refine below_set ?_ GE857.out | refine below_set ?_ GE858.out | refine below_set ?_ GE859.out | refine below_set ?_ GE860.out) | exact HB.out))))
  replace HO0_0 := Aside0.mk (Kd.R_elder' HO0_0.out (Kd.R_base ho0) hb)
  replace BK857 := Aside0.mk (blk_below (g := gb857) (o := .cells #[.slice Ao67 l0_0.length co67] 25 (0, 0)) BK857.out hb)
  replace BK858 := Aside0.mk (blk_below (g := gb858) (o := .cells #[.slice A1_0 l1_0.length c1_0] 25 (0, 0)) BK858.out hb)
  replace BK859 := Aside0.mk (blk_below (g := gb859) (o := .cells #[.slice none 0 0] 25 (0, 0)) BK859.out hb)
  replace BK860 := Aside0.mk (blk_below (g := gb860) (o := .cells #[.slice none 0 0] 25 (0, 0)) BK860.out hb)
  replace HK := Aside0.mk (Kept.below (S := (fun k_ => P0_0_ k_)) (by repeat (first | (with_reducible first | exact HK.out | apply Kept.alloc | apply Kept.drewN | apply Kept.drew | refine Kept.setCell ?_ (.inr GW857.out) _ | refine Kept.setCell ?_ (.inr GW858.out) _ | refine Kept.setCell ?_ (.inr GW859.out) _ | refine Kept.setCell ?_ (.inr GW860.out) _) | exact HK.out)) hb)
  replace HB := Aside0.mk (below_step (by repeat (first | (with_reducible first | exact HB.out | apply below_alloc | apply pw_below_drewN | apply below_drew1 | refine below_set ?_ GE857.out | refine below_set ?_ GE858.out | refine below_set ?_ GE859.out | refine below_set ?_ GE860.out) | exact HB.out)) hb)
  (try clear hb)
  (try clear hb2)
  (try clear hk)
  (try clear hi)
  (try clear ho0)
  refine hK.out _ _ ⟨(blk_cell BK857.out 0).trans rfl, (blk_cell BK858.out 0).trans rfl⟩ (fun hHeld => ?_)
  clear hK K
  refine norm_ (a' := ?_) ?_ ?_
  rotate_left
  · show Act.put _ (some 14) _ = _
    simp only [Act.put, List.setIfInBounds_toArray, List.set_cons_zero, List.set_cons_succ, i64_w, i32_w]
    rfl
  refine one_ (i := 3) (N := some 16) #[true, true, true, true, false, false] rfl rfl (by kernel_rfl) (by decide) (fun K hK => ?_)
  refine goes_ Try.func31 (by kernel_rfl) rfl #[.agg #[.slice A1_0 l1_0.length c1_0]] (by rfl) rfl rfl (by (try simp only [List.map_toArray, List.map_cons, List.map_nil]); first | done | rfl | (simp only [List.length_drop, List.length_take]; rfl)) ?_
  with_reducible refine (nat_Nat_Limbs.calls _ _ l1_0 t864 _ ?side1 ?side2 A4.out).mono ?_
  (case side1 => exact Kd.C_kept_now HR1_0.out (by repeat (first | (with_reducible first | exact HK.out | apply Kept.alloc | apply Kept.drewN | apply Kept.drew | refine Kept.setCell ?_ (.inr GW857.out) _ | refine Kept.setCell ?_ (.inr GW858.out) _ | refine Kept.setCell ?_ (.inr GW859.out) _ | refine Kept.setCell ?_ (.inr GW860.out) _) | exact HK.out)))
  (case side2 => exact HC1_0.out)
  rintro e w74 ⟨v865, rfl, ho0, hb⟩
  refine ⟨_, rfl, ?_⟩
  have HO866 := Aside0.mk (Kd.R_lower (Kd.R_new' (Kd.R_new' (Kd.R_newM (M := fun k_ => (P0_0_ k_ ∨ w.heap.size ≤ k_)) ho0 (by first | exact HK.out.1 | exact (show Kept w _ (fun k_ => P0_0_ k_) from by repeat (first | (with_reducible first | exact HK.out | apply Kept.alloc | apply Kept.drewN | apply Kept.drew | refine Kept.setCell ?_ (.inr GW857.out) _ | refine Kept.setCell ?_ (.inr GW858.out) _ | refine Kept.setCell ?_ (.inr GW859.out) _ | refine Kept.setCell ?_ (.inr GW860.out) _) | exact HK.out)).1) (fun k_ h_ => .inr h_)) (Kd.R_lt HO0_0.out)) (Kd.R_lt HO863.out)) (below_size (by repeat (first | (with_reducible first | exact HB.out | apply below_alloc | apply pw_below_drewN | apply below_drew1 | refine below_set ?_ GE857.out | refine below_set ?_ GE858.out | refine below_set ?_ GE859.out | refine below_set ?_ GE860.out) | exact HB.out))))
  replace HO0_0 := Aside0.mk (Kd.R_elder' HO0_0.out (Kd.R_base ho0) hb)
  replace HO863 := Aside0.mk (Kd.R_elder' HO863.out (Kd.R_base ho0) hb)
  replace BK857 := Aside0.mk (blk_below (g := gb857) (o := .cells #[.slice Ao67 l0_0.length co67] 25 (0, 0)) BK857.out hb)
  replace BK858 := Aside0.mk (blk_below (g := gb858) (o := .cells #[.slice A1_0 l1_0.length c1_0] 25 (0, 0)) BK858.out hb)
  replace BK859 := Aside0.mk (blk_below (g := gb859) (o := .cells #[.slice none 0 0] 25 (0, 0)) BK859.out hb)
  replace BK860 := Aside0.mk (blk_below (g := gb860) (o := .cells #[.slice none 0 0] 25 (0, 0)) BK860.out hb)
  replace HK := Aside0.mk (Kept.below (S := (fun k_ => P0_0_ k_)) (by repeat (first | (with_reducible first | exact HK.out | apply Kept.alloc | apply Kept.drewN | apply Kept.drew | refine Kept.setCell ?_ (.inr GW857.out) _ | refine Kept.setCell ?_ (.inr GW858.out) _ | refine Kept.setCell ?_ (.inr GW859.out) _ | refine Kept.setCell ?_ (.inr GW860.out) _) | exact HK.out)) hb)
  replace HB := Aside0.mk (below_step (by repeat (first | (with_reducible first | exact HB.out | apply below_alloc | apply pw_below_drewN | apply below_drew1 | refine below_set ?_ GE857.out | refine below_set ?_ GE858.out | refine below_set ?_ GE859.out | refine below_set ?_ GE860.out) | exact HB.out)) hb)
  (try clear hb)
  (try clear hb2)
  (try clear hk)
  (try clear hi)
  (try clear ho0)
  refine hK.out _ _ ⟨(blk_cell BK857.out 0).trans rfl, (blk_cell BK858.out 0).trans rfl⟩ (fun hHeld => ?_)
  clear hK K
  refine norm_ (a' := ?_) ?_ ?_
  rotate_left
  · show Act.put _ (some 16) _ = _
    simp only [Act.put, List.setIfInBounds_toArray, List.set_cons_zero, List.set_cons_succ, i64_w, i32_w]
    rfl
  refine pure_ (i := 4) (N := some 7) (v := ?_) (a' := ?_) #[true, true, true, true, true, false] rfl rfl (by kernel_rfl) (fun _ _ _ h => h) (Or.inl ⟨by rfl, ?_⟩) ?_ ?_
  rotate_left
  · intro w'
    go_simp
    with_reducible rfl
  rotate_left
  · simp only [Act.put, List.setIfInBounds_toArray, List.set_cons_zero, List.set_cons_succ, i64_w, i32_w]
    rfl
  refine pure_ (i := 5) (N := some 8) (v := ?_) (a' := ?_) #[true, true, true, true, true, true] rfl rfl (by kernel_rfl) (fun _ _ _ h => h) (Or.inl ⟨by rfl, ?_⟩) ?_ ?_
  rotate_left
  · intro w'
    go_simp
    with_reducible rfl
  rotate_left
  · simp only [Act.put, List.setIfInBounds_toArray, List.set_cons_zero, List.set_cons_succ, i64_w, i32_w]
    rfl
  refine done_ (by kernel_rfl) ?_
  obtain ⟨Ao75, co75, eo75⟩ := Kd.R_slice HO866.out
  subst eo75
  obtain ⟨Ao76, co76, eo76⟩ := Kd.R_slice HO863.out
  subst eo76
  try go_wp2_with (first | ((with_reducible refine gate_callee (f := 58) rfl ?_); refine goesL_ (some 51) rfl rfl Try.func58 (by kernel_rfl) rfl #[.slice Ao76 t861.length co76, .slice Ao75 t864.length co75] rfl (by (try simp only [List.map_toArray, List.map_cons, List.map_nil]); first | done | rfl | (simp only [List.length_drop, List.length_take]; rfl)) ?_; (with_reducible refine (quot_long.calls k _ _ t861 _ _ t864 t878 t879 _ ?side1 ?side2 ?side3 ?side4 A64.out).mono ?_); (case side1 => exact (Kd.R_reads' HO863.out).2.2); (case side2 => exact (Kd.R_reads' HO863.out).2.1); (case side3 => exact (Kd.R_reads' HO866.out).2.2); (case side4 => exact (Kd.R_reads' HO866.out).2.1); rintro e w77 ⟨v880, v882, rfl, ho0, ho1, hb⟩; refine ⟨_, rfl, ?_⟩; have HO881 := Aside0.mk (Kd.R_lower (Kd.R_new' (Kd.R_new' (Kd.R_new' (Kd.R_newM (M := fun k_ => (P0_0_ k_ ∨ w.heap.size ≤ k_)) ho0 (by first | exact HK.out.1 | exact (show Kept w _ (fun k_ => P0_0_ k_) from by repeat (first | (with_reducible first | exact HK.out | apply Kept.alloc | apply Kept.drewN | apply Kept.drew | refine Kept.setCell ?_ (.inr GW857.out) _ | refine Kept.setCell ?_ (.inr GW858.out) _ | refine Kept.setCell ?_ (.inr GW859.out) _ | refine Kept.setCell ?_ (.inr GW860.out) _) | exact HK.out)).1) (fun k_ h_ => .inr h_)) (Kd.R_lt HO0_0.out)) (Kd.R_lt HO863.out)) (Kd.R_lt HO866.out)) (below_size (by repeat (first | (with_reducible first | exact HB.out | apply below_alloc | apply pw_below_drewN | apply below_drew1 | refine below_set ?_ GE857.out | refine below_set ?_ GE858.out | refine below_set ?_ GE859.out | refine below_set ?_ GE860.out) | exact HB.out)))); have HO883 := Aside0.mk (Kd.R_lower (Kd.R_new' (Kd.R_new' (Kd.R_new' (Kd.R_newM (M := fun k_ => (P0_0_ k_ ∨ w.heap.size ≤ k_)) ho1 (by first | exact HK.out.1 | exact (show Kept w _ (fun k_ => P0_0_ k_) from by repeat (first | (with_reducible first | exact HK.out | apply Kept.alloc | apply Kept.drewN | apply Kept.drew | refine Kept.setCell ?_ (.inr GW857.out) _ | refine Kept.setCell ?_ (.inr GW858.out) _ | refine Kept.setCell ?_ (.inr GW859.out) _ | refine Kept.setCell ?_ (.inr GW860.out) _) | exact HK.out)).1) (fun k_ h_ => .inr h_)) (Kd.R_lt HO0_0.out)) (Kd.R_lt HO863.out)) (Kd.R_lt HO866.out)) (below_size (by repeat (first | (with_reducible first | exact HB.out | apply below_alloc | apply pw_below_drewN | apply below_drew1 | refine below_set ?_ GE857.out | refine below_set ?_ GE858.out | refine below_set ?_ GE859.out | refine below_set ?_ GE860.out) | exact HB.out)))); replace HO0_0 := Aside0.mk (Kd.R_mono (Kd.R_told (Kd.R_told (Kd.R_old HO0_0.out hb) (Kd.R_base ho0)) (Kd.R_base ho1)) (fun _ h_ => h_.1)); replace HO863 := Aside0.mk (Kd.R_mono (Kd.R_told (Kd.R_told (Kd.R_old HO863.out hb) (Kd.R_base ho0)) (Kd.R_base ho1)) (fun _ h_ => h_.1)); replace HO866 := Aside0.mk (Kd.R_mono (Kd.R_told (Kd.R_told (Kd.R_old HO866.out hb) (Kd.R_base ho0)) (Kd.R_base ho1)) (fun _ h_ => h_.1)); replace BK857 := Aside0.mk (blk_below (g := gb857) (o := .cells #[.slice Ao67 l0_0.length co67] 25 (0, 0)) BK857.out hb); replace BK858 := Aside0.mk (blk_below (g := gb858) (o := .cells #[.slice A1_0 l1_0.length c1_0] 25 (0, 0)) BK858.out hb); replace BK859 := Aside0.mk (blk_below (g := gb859) (o := .cells #[.slice none 0 0] 25 (0, 0)) BK859.out hb); replace BK860 := Aside0.mk (blk_below (g := gb860) (o := .cells #[.slice none 0 0] 25 (0, 0)) BK860.out hb); replace HK := Aside0.mk (Kept.below (S := (fun k_ => P0_0_ k_)) (by repeat (first | (with_reducible first | exact HK.out | apply Kept.alloc | apply Kept.drewN | apply Kept.drew | refine Kept.setCell ?_ (.inr GW857.out) _ | refine Kept.setCell ?_ (.inr GW858.out) _ | refine Kept.setCell ?_ (.inr GW859.out) _ | refine Kept.setCell ?_ (.inr GW860.out) _) | exact HK.out)) hb); replace HB := Aside0.mk (below_step (by repeat (first | (with_reducible first | exact HB.out | apply below_alloc | apply pw_below_drewN | apply below_drew1 | refine below_set ?_ GE857.out | refine below_set ?_ GE858.out | refine below_set ?_ GE859.out | refine below_set ?_ GE860.out) | exact HB.out)) hb); (try clear ho1); obtain ⟨Ao78, co78, eo78⟩ := Kd.R_slice HO881.out; subst eo78) | ((with_reducible refine gate_callee (f := 16) rfl ?_); refine goesL_ (some 55) rfl rfl Try.func16 (by kernel_rfl) rfl #[.slice Ao78 t878.length co78] rfl (by (try simp only [List.map_toArray, List.map_cons, List.map_nil]); first | done | rfl | (simp only [List.length_drop, List.length_take]; rfl)) ?_; (with_reducible refine (nat_Made.calls k _ _ t878 t884 _ ?side1 ?side2 A65.out).mono ?_); (case side1 => exact (Kd.R_reads' HO881.out).2.2); (case side2 => exact (Kd.R_reads' HO881.out).2.1); rintro e w79 ⟨v885, rfl, ho0, hb⟩; refine ⟨_, rfl, ?_⟩; have HO886 := Aside0.mk (Kd.R_lower (Kd.R_new' (Kd.R_new' (Kd.R_new' (Kd.R_new' (Kd.R_new' (Kd.R_newM (M := fun k_ => (P0_0_ k_ ∨ w.heap.size ≤ k_)) ho0 (by first | exact HK.out.1 | exact (show Kept w _ (fun k_ => P0_0_ k_) from by repeat (first | (with_reducible first | exact HK.out | apply Kept.alloc | apply Kept.drewN | apply Kept.drew | refine Kept.setCell ?_ (.inr GW857.out) _ | refine Kept.setCell ?_ (.inr GW858.out) _ | refine Kept.setCell ?_ (.inr GW859.out) _ | refine Kept.setCell ?_ (.inr GW860.out) _) | exact HK.out)).1) (fun k_ h_ => .inr h_)) (Kd.R_lt HO0_0.out)) (Kd.R_lt HO863.out)) (Kd.R_lt HO866.out)) (Kd.R_lt HO881.out)) (Kd.R_lt HO883.out)) (below_size (by repeat (first | (with_reducible first | exact HB.out | apply below_alloc | apply pw_below_drewN | apply below_drew1 | refine below_set ?_ GE857.out | refine below_set ?_ GE858.out | refine below_set ?_ GE859.out | refine below_set ?_ GE860.out) | exact HB.out)))); replace HO0_0 := Aside0.mk (Kd.R_elder' HO0_0.out (Kd.R_base ho0) hb); replace HO863 := Aside0.mk (Kd.R_elder' HO863.out (Kd.R_base ho0) hb); replace HO866 := Aside0.mk (Kd.R_elder' HO866.out (Kd.R_base ho0) hb); replace HO881 := Aside0.mk (Kd.R_elder' HO881.out (Kd.R_base ho0) hb); replace HO883 := Aside0.mk (Kd.R_elder' HO883.out (Kd.R_base ho0) hb); replace BK857 := Aside0.mk (blk_below (g := gb857) (o := .cells #[.slice Ao67 l0_0.length co67] 25 (0, 0)) BK857.out hb); replace BK858 := Aside0.mk (blk_below (g := gb858) (o := .cells #[.slice A1_0 l1_0.length c1_0] 25 (0, 0)) BK858.out hb); replace BK859 := Aside0.mk (blk_below (g := gb859) (o := .cells #[.slice none 0 0] 25 (0, 0)) BK859.out hb); replace BK860 := Aside0.mk (blk_below (g := gb860) (o := .cells #[.slice none 0 0] 25 (0, 0)) BK860.out hb); replace HK := Aside0.mk (Kept.below (S := (fun k_ => P0_0_ k_)) (by repeat (first | (with_reducible first | exact HK.out | apply Kept.alloc | apply Kept.drewN | apply Kept.drew | refine Kept.setCell ?_ (.inr GW857.out) _ | refine Kept.setCell ?_ (.inr GW858.out) _ | refine Kept.setCell ?_ (.inr GW859.out) _ | refine Kept.setCell ?_ (.inr GW860.out) _) | exact HK.out)) hb); replace HB := Aside0.mk (below_step (by repeat (first | (with_reducible first | exact HB.out | apply below_alloc | apply pw_below_drewN | apply below_drew1 | refine below_set ?_ GE857.out | refine below_set ?_ GE858.out | refine below_set ?_ GE859.out | refine below_set ?_ GE860.out) | exact HB.out)) hb); obtain ⟨Ao80, co80, eo80⟩ := Kd.R_slice HO883.out; subst eo80) | ((with_reducible refine gate_callee (f := 16) rfl ?_); refine goesL_ (some 57) rfl rfl Try.func16 (by kernel_rfl) rfl #[.slice Ao80 t879.length co80] rfl (by (try simp only [List.map_toArray, List.map_cons, List.map_nil]); first | done | rfl | (simp only [List.length_drop, List.length_take]; rfl)) ?_; (with_reducible refine (nat_Made.calls k _ _ t879 t887 _ ?side1 ?side2 A66.out).mono ?_); (case side1 => exact (Kd.R_reads' HO883.out).2.2); (case side2 => exact (Kd.R_reads' HO883.out).2.1); rintro e w81 ⟨v888, rfl, ho0, hb⟩; refine ⟨_, rfl, ?_⟩; have HO889 := Aside0.mk (Kd.R_lower (Kd.R_new' (Kd.R_new' (Kd.R_new' (Kd.R_new' (Kd.R_new' (Kd.R_new' (Kd.R_newM (M := fun k_ => (P0_0_ k_ ∨ w.heap.size ≤ k_)) ho0 (by first | exact HK.out.1 | exact (show Kept w _ (fun k_ => P0_0_ k_) from by repeat (first | (with_reducible first | exact HK.out | apply Kept.alloc | apply Kept.drewN | apply Kept.drew | refine Kept.setCell ?_ (.inr GW857.out) _ | refine Kept.setCell ?_ (.inr GW858.out) _ | refine Kept.setCell ?_ (.inr GW859.out) _ | refine Kept.setCell ?_ (.inr GW860.out) _) | exact HK.out)).1) (fun k_ h_ => .inr h_)) (Kd.R_lt HO0_0.out)) (Kd.R_lt HO863.out)) (Kd.R_lt HO866.out)) (Kd.R_lt HO881.out)) (Kd.R_lt HO883.out)) (Kd.R_lt HO886.out)) (below_size (by repeat (first | (with_reducible first | exact HB.out | apply below_alloc | apply pw_below_drewN | apply below_drew1 | refine below_set ?_ GE857.out | refine below_set ?_ GE858.out | refine below_set ?_ GE859.out | refine below_set ?_ GE860.out) | exact HB.out)))); replace HO0_0 := Aside0.mk (Kd.R_elder' HO0_0.out (Kd.R_base ho0) hb); replace HO863 := Aside0.mk (Kd.R_elder' HO863.out (Kd.R_base ho0) hb); replace HO866 := Aside0.mk (Kd.R_elder' HO866.out (Kd.R_base ho0) hb); replace HO881 := Aside0.mk (Kd.R_elder' HO881.out (Kd.R_base ho0) hb); replace HO883 := Aside0.mk (Kd.R_elder' HO883.out (Kd.R_base ho0) hb); replace HO886 := Aside0.mk (Kd.R_elder' HO886.out (Kd.R_base ho0) hb); replace BK857 := Aside0.mk (blk_below (g := gb857) (o := .cells #[.slice Ao67 l0_0.length co67] 25 (0, 0)) BK857.out hb); replace BK858 := Aside0.mk (blk_below (g := gb858) (o := .cells #[.slice A1_0 l1_0.length c1_0] 25 (0, 0)) BK858.out hb); replace BK859 := Aside0.mk (blk_below (g := gb859) (o := .cells #[.slice none 0 0] 25 (0, 0)) BK859.out hb); replace BK860 := Aside0.mk (blk_below (g := gb860) (o := .cells #[.slice none 0 0] 25 (0, 0)) BK860.out hb); replace HK := Aside0.mk (Kept.below (S := (fun k_ => P0_0_ k_)) (by repeat (first | (with_reducible first | exact HK.out | apply Kept.alloc | apply Kept.drewN | apply Kept.drew | refine Kept.setCell ?_ (.inr GW857.out) _ | refine Kept.setCell ?_ (.inr GW858.out) _ | refine Kept.setCell ?_ (.inr GW859.out) _ | refine Kept.setCell ?_ (.inr GW860.out) _) | exact HK.out)) hb); replace HB := Aside0.mk (below_step (by repeat (first | (with_reducible first | exact HB.out | apply below_alloc | apply pw_below_drewN | apply below_drew1 | refine below_set ?_ GE857.out | refine below_set ?_ GE858.out | refine below_set ?_ GE859.out | refine below_set ?_ GE860.out) | exact HB.out)) hb); obtain ⟨Ao82, co82, eo82⟩ := Kd.R_slice HO886.out; subst eo82; have hnb83 := NB859_857.out; have hnc83 := NB857_859.out; have hnb84 := NB859_858.out; have hnc84 := NB858_859.out; have hnb85 := NB859_860.out; have hnc85 := NB860_859.out; have hcz86_0 : w81.cell? ⟨gb859, 0, none⟩ = some (.slice none 0 0) := (blk_cell BK859.out 0).trans rfl; have hfz86_0 := blk_frozen BK859.out 0; obtain ⟨Ao87, co87, eo87⟩ := Kd.R_slice HO889.out; subst eo87; have hnb88 := NB860_857.out; have hnc88 := NB857_860.out; have hnb89 := NB860_858.out; have hnc89 := NB858_860.out; have hcz90_0 : w81.cell? ⟨gb860, 0, none⟩ = some (.slice none 0 0) := (blk_cell BK860.out 0).trans rfl; have hfz90_0 := blk_frozen BK860.out 0))
  refine bodyPost_ret (results_list (rs := [.cell 4 25, .cell 5 25, .tmp 6]) rfl (by simp) (.cell gb859 25 #[.slice Ao82 t884.length co82] (0, 0) _ rfl (by (with_reducible repeat (first | refine blk_drewN ?_ _ | refine blk_drew ?_ | refine blk_alloc ?_ _)); refine blk_far ?_ NB859_860.out _; (with_reducible repeat (first | refine blk_drewN ?_ _ | refine blk_drew ?_ | refine blk_alloc ?_ _)); refine blk_put (cs := #[.slice none 0 0]) ?_ 0 _ rfl; (with_reducible repeat (first | refine blk_drewN ?_ _ | refine blk_drew ?_ | refine blk_alloc ?_ _)); exact BK859.out) Try.underlying25 rfl (by kernel_rfl) (.cell gb860 25 #[.slice Ao87 t887.length co87] (0, 0) _ rfl (by (with_reducible repeat (first | refine blk_drewN ?_ _ | refine blk_drew ?_ | refine blk_alloc ?_ _)); refine blk_put (cs := #[.slice none 0 0]) ?_ 0 _ rfl; (with_reducible repeat (first | refine blk_drewN ?_ _ | refine blk_drew ?_ | refine blk_alloc ?_ _)); refine blk_far ?_ NB860_859.out _; (with_reducible repeat (first | refine blk_drewN ?_ _ | refine blk_drew ?_ | refine blk_alloc ?_ _)); exact BK860.out) Try.underlying25 rfl (by kernel_rfl) (.tmp .nil)))) rfl ?_
  exact ⟨_, _, rfl, by exact Kd.R_mono (Kd.R_far (p := ⟨gb860, 0, none⟩) (Kd.R_far (p := ⟨gb859, 0, none⟩) (Kd.R_types (Kd.R_types HO886.out BK859.out (by decide)) BK860.out (by decide)) (fun _ hk => hk.1.2) (.slice Ao82 t884.length co82)) (fun _ hk => hk.2) (.slice Ao87 t887.length co87)) (fun _ hk => ⟨hk.1.1.1.1.1.1.1.1.1, hk.1.1.2⟩), by exact Kd.R_mono (Kd.R_far (p := ⟨gb860, 0, none⟩) (Kd.R_far (p := ⟨gb859, 0, none⟩) (Kd.R_types (Kd.R_types HO889.out BK859.out (by decide)) BK860.out (by decide)) (fun _ hk => hk.1.2) (.slice Ao82 t884.length co82)) (fun _ hk => hk.2) (.slice Ao87 t887.length co87)) (fun _ hk => ⟨hk.1.1.1.1.1.1.1.1.1, hk.1.1.2⟩), by repeat (first | (with_reducible first | exact HB.out | apply below_alloc | apply pw_below_drewN | apply below_drew1 | refine below_set ?_ GE857.out | refine below_set ?_ GE858.out | refine below_set ?_ GE859.out | refine below_set ?_ GE860.out) | exact HB.out), by repeat (first | (with_reducible first | exact HK.out | apply Kept.alloc | apply Kept.drewN | apply Kept.drew | refine Kept.setCell ?_ (.inr GW857.out) _ | refine Kept.setCell ?_ (.inr GW858.out) _ | refine Kept.setCell ?_ (.inr GW859.out) _ | refine Kept.setCell ?_ (.inr GW860.out) _) | exact HK.out)⟩

end Go.Proofs.Ytcepdndhkidehaa.PA
end
