/- No fraction with a denominator that may be is nearer to a number than the best one; one as near has no lesser denominator, or the same one and no lesser numerator. -/
import Derived.Test.YtjkhkmcmnnhmcaaQApproxNearA2
namespace Go.Proofs.Ytjkhkmcmnnhmcaa.Pure
open Go Go.Proofs.Ytjkhkmcmnnhmcaa.E Go.Proofs.Ytjkhkmcmnnhmcaa.F
set_option linter.unusedVariables false
set_option linter.unusedSimpArgs false
theorem near_round {n d x p y e : Nat} {r best : List Int × List Int} {row : List (List Int)} {len i : Int} {res : Bool} (hr : RQ r n d 1000) (hd : 0 < d) (hb : RQ best x p 1000) (hp : 0 < p) (he : 0 < e) (he2 : e < 1000000000) (ly : ln y ≤ 900) (lx : ln x ≤ 1000)
    (hn : Nearer n d x p y e) (h0 : 0 ≤ i) (h1 : i < len) (h2 : i < (row.length : Int)) (hrow : rdT (.agg (.lst (.int .u32))) row i = L y)
    (h : Ev (numerarylaw22_ApproxNear.l0 r.1 r.2 (L x) (p : Int) best.1 best.2 (e : Int) row len (IntKind.i64.wrap (i + 1))) res) :
    Ev (numerarylaw22_ApproxNear.l0 r.1 r.2 (L x) (p : Int) best.1 best.2 (e : Int) row len i) res := by
  have le := ln_small (n := e) (by omega)
  obtain ⟨o, ho, vo⟩ := ratio_of (a := y) (b := e) (c := 1000) he (by decide) (by omega) (by omega)
  obtain ⟨w1, k1, u1⟩ := ratio_away hr hb hd hp (by decide) (by decide)
  obtain ⟨w2, k2, u2⟩ := ratio_away hr ho hd he (by decide) (by decide)
  have hc := ratio_cmp k1 k2 (Nat.mul_pos hd hp) (Nat.mul_pos hd he) (by decide) (by decide)
  have e1 : ad (n * p) (x * d) * (d * e) = ad (n * p) (x * d) * e * d := by rw [Nat.mul_comm d, Nat.mul_assoc]
  have e2 : ad (n * e) (y * d) * (d * p) = ad (n * e) (y * d) * p * d := by rw [Nat.mul_comm d, Nat.mul_assoc]
  rw [e1, e2] at hc
  unfold Nearer at hn
  generalize ad (n * p) (x * d) * e = X at *
  generalize ad (n * e) (y * d) * p = Y at *
  have hlt : X * d < Y * d ↔ X < Y := Nat.mul_lt_mul_right hd
  refine ev_loop numerarylaw22_ApproxNear.l0_eq numerarylaw22_ApproxNear.l0_step (ev_pos h1 (ev_pos h0 (ev_pos h2 ?_)))
  rw [hrow, wrap_u64_nat (by omega)]
  refine Ev.bind (of_val (by omega)) (Ev.bind vo (Ev.bind u1 (Ev.bind u2 (Ev.bind hc ?_))))
  rcases hn with hn | ⟨rfl, hn⟩
  · have := hlt.mpr hn
    exact ev_neg (fun h => by have := cmpI_gt.mp h; omega) (ev_neg (fun h => by have := cmpI_eq0.mp h; omega) h)
  · rw [cmpI_self]
    refine ev_neg (by decide) (ev_pos rfl (ev_neg (by omega) ?_))
    rcases hn with hn | ⟨rfl, hn⟩
    · exact ev_neg (by omega) h
    · exact ev_pos rfl (Ev.bind (ncmp (by omega) (by omega)) (ev_neg (fun h => by have := cmpI_lt.mp h; omega) h))
theorem ApproxNear (n0 n1 n2 n3 n4 : Int) (w0 : (Lit.int .u64 n0).wf = true) (w1 : (Lit.int .u64 n1).wf = true) (w2 : (Lit.int .u32 n2).wf = true) (w3 : (Lit.int .u32 n3).wf = true) (w4 : (Lit.int .u32 n4).wf = true) : Ev (numerarylaw22_ApproxNear.f (n0, n1, n2, n3, n4)) true := by
  obtain ⟨h0a, h0b⟩ := wf_u64 w0
  obtain ⟨h1a, h1b⟩ := wf_u64 w1
  obtain ⟨h2a, h2b⟩ := wf_u32 w2
  obtain ⟨h3a, h3b⟩ := wf_u32 w3
  obtain ⟨h4a, h4b⟩ := wf_u32 w4
  obtain ⟨a, rfl⟩ : ∃ n : Nat, n0 = (n : Int) := ⟨n0.toNat, by omega⟩
  obtain ⟨b, rfl⟩ : ∃ n : Nat, n1 = (n : Int) := ⟨n1.toNat, by omega⟩
  obtain ⟨m, rfl⟩ : ∃ n : Nat, n2 = (n : Int) := ⟨n2.toNat, by omega⟩
  obtain ⟨y, rfl⟩ : ∃ n : Nat, n3 = (n : Int) := ⟨n3.toNat, by omega⟩
  obtain ⟨q, rfl⟩ : ∃ n : Nat, n4 = (n : Int) := ⟨n4.toNat, by omega⟩
  obtain ⟨k, hk, hk1, hk2⟩ : ∃ k : Nat, IntKind.i64.wrap (1 + (IntKind.i64.wrap ((m : Int).tmod 999999999))) = (k : Int) ∧ 1 ≤ k ∧ k ≤ 999999999 :=
    ⟨1 + m % 999999999, by rw [Int.tmod_eq_emod_of_nonneg (by omega), wrap_id (x := (m : Int) % 999999999) (by omega) (by omega), wrap_id (by omega) (by omega)]; omega, by omega, by omega⟩
  obtain ⟨e, he, he1, he2⟩ : ∃ e : Nat, IntKind.i64.wrap (1 + ((IntKind.i64.wrap (q : Int)).tmod (k : Int))) = (e : Int) ∧ 1 ≤ e ∧ e ≤ k := by
    have hlt : q % k < k := Nat.mod_lt _ hk1
    refine ⟨1 + q % k, ?_, by omega, by omega⟩
    rw [wrap_nat (a := q) (by omega), Int.tmod_eq_emod_of_nonneg (by omega), ← Int.natCast_emod]
    rw [wrap_id (by omega) (by omega)]; omega
  obtain ⟨d, r, hd, hr, hof⟩ := of22 (a := a) (b := b) (by omega) (by omega)
  have hd0 : 0 < d := by omega
  have hov := over_ok (hr.le (by decide)) hd0 he1 (by omega)
  obtain ⟨n', d', rfl, p1, g, e1, la, lb⟩ := hr
  have hr2 : RQ (L n', L d') n' d' 1000 := ⟨n', d', rfl, p1, g, rfl, by omega, by omega⟩
  obtain ⟨x, p, hbest, hp1, hpk, lx, hall⟩ := best_all (n := n') (d := d') (m := k) p1 g hk1 hk2 (by omega) (by omega)
  have lp := ln_small (n := p) (by omega)
  obtain ⟨best, hb, vb⟩ := ratio_of (a := x) (b := p) (c := 1000) hp1 (by decide) lx (by omega)
  have ly := ln_small (n := y) (by omega)
  have hnear : ln (near (a * e) d) ≤ 900 := by
    have h1 := near_le (x := a * e) hd0
    have h2 := ln_mono h1
    have h3 := ln_add (a * e) 1
    have h4 := ln_mul a e
    have h5 := ln_small (n := a) (by omega)
    have h6 := ln_small (n := e) (by omega)
    have h7 := ln_small (n := 1) (by decide)
    omega
  refine ev_eq numerarylaw22_ApproxNear.f_eq ?_
  dsimp only
  rw [hk]
  refine Ev.bind hof (Ev.bind hbest ?_)
  rw [show mxI (p : Int) 0 = (p : Int) by unfold mxI; rw [if_neg (by omega)], wrap_u64_nat (by omega)]
  refine Ev.bind (of_val (by omega)) (Ev.bind vb (Ev.bind wakes22 (ev_neg (by decide) (ev_neg (by simp) (ev_neg (by simp) (ev_neg (by dsimp only; omega) (ev_neg (by dsimp only; omega) (ev_pos (by omega) ?_))))))))
  rw [he]
  refine Ev.bind hov ?_
  rw [wrap_u64_nat (n := y) (by omega)]
  refine Ev.bind (of_val (by omega)) ?_
  have last : Ev (numerarylaw22_ApproxNear.l0 (L n') (L d') (L x) (p : Int) best.1 best.2 (e : Int) [L (near (a * e) d), L y] (([L (near (a * e) d), L y] : List (List Int)).length : Int) (IntKind.i64.wrap (1 + 1))) true :=
    ev_loop numerarylaw22_ApproxNear.l0_eq numerarylaw22_ApproxNear.l0_step (ev_neg (by simp; decide) (ev_now rfl))
  refine near_round (i := 0) hr2 p1 hb hp1 he1 (by omega) hnear lx (hall _ e he1 he2) (by decide) (by simp) (by simp) rfl ?_
  exact near_round (i := 1) hr2 p1 hb hp1 he1 (by omega) (by omega) lx (hall y e he1 he2) (by decide) (by simp) (by simp) rfl last
end Go.Proofs.Ytjkhkmcmnnhmcaa.Pure
