/- Quotients in lowest terms, and the document's quotients. -/
import Derived.Test.YteidggfjcanbjaaQClockMoreK1
namespace Go.Proofs.Yteidggfjcanbjaa.F
open Go Go.Proofs.Yteidggfjcanbjaa.E
set_option linter.unusedVariables false
set_option linter.unusedSimpArgs false

/-- A quotient of the program: n over d, in lowest terms. -/
def RQ (r : List Int × List Int) (n d c : Nat) : Prop := ∃ n' d', r = (L n', L d') ∧ 0 < d' ∧ Nat.gcd n' d' = 1 ∧ n' * d = n * d' ∧ ln n' ≤ c ∧ ln d' ≤ c
theorem RQ.trans {r : List Int × List Int} {a b n d c : Nat} (h : RQ r a b c) (hb : 0 < b) (e : a * d = n * b) : RQ r n d c := by
  obtain ⟨n', d', h1, h2, h3, h4, h5⟩ := h
  refine ⟨n', d', h1, h2, h3, ?_, h5⟩
  refine Nat.eq_of_mul_eq_mul_right hb ?_
  have e1 : n' * d * b = n' * b * d := Nat.mul_right_comm _ _ _
  have e2 : n * d' * b = n * b * d' := Nat.mul_right_comm _ _ _
  rw [e1, e2, h4, ← e]
  exact Nat.mul_right_comm _ _ _
theorem RQ.le {r : List Int × List Int} {n d c k : Nat} (h : RQ r n d c) (hk : c ≤ k) : RQ r n d k := by
  obtain ⟨n', d', h1, h2, h3, h4, h5, h6⟩ := h
  exact ⟨n', d', h1, h2, h3, h4, by omega, by omega⟩
theorem lowest_ex {a b : Nat} (hb : 0 < b) (ha : ln a ≤ 1048576) (hlb : ln b ≤ 1048576) : Ev (ratio_lowest.f (L a) (L b)) (L (a / Nat.gcd a b), L (b / Nat.gcd a b)) := by
  have hg : 0 < Nat.gcd a b := Nat.gcd_pos_of_pos_right a hb
  have lg := ln_mono (Nat.le_of_dvd hb (Nat.gcd_dvd_right a b))
  exact ev_eq ratio_lowest.f_eq (Ev.bind (qgcd (by omega) (by omega)) (Ev.bind (qdiv hg (by omega) (by omega)) (Ev.bind (qdiv hg (by omega) (by omega)) (ev_now rfl))))
theorem lowest {a b c : Nat} (hb : 0 < b) (hc : c ≤ 1048576) (ha : ln a ≤ c) (hlb : ln b ≤ c) : ∃ r, RQ r a b c ∧ Ev (ratio_lowest.f (L a) (L b)) r := by
  have hg : 0 < Nat.gcd a b := Nat.gcd_pos_of_pos_right a hb
  refine ⟨_, ⟨a / Nat.gcd a b, b / Nat.gcd a b, rfl, Nat.div_pos (Nat.le_of_dvd hb (Nat.gcd_dvd_right a b)) hg, ?_, ?_, ?_, ?_⟩, lowest_ex hb (by omega) (by omega)⟩
  · rw [Nat.gcd_div (Nat.gcd_dvd_left a b) (Nat.gcd_dvd_right a b), Nat.div_self hg]
  · obtain ⟨x, hx⟩ := Nat.gcd_dvd_left a b
    obtain ⟨y, hy⟩ := Nat.gcd_dvd_right a b
    generalize Nat.gcd a b = g at *
    subst hx; subst hy
    rw [Nat.mul_div_cancel_left _ hg, Nat.mul_div_cancel_left _ hg, Nat.mul_left_comm, Nat.mul_assoc]
  · exact Nat.le_trans (ln_mono (Nat.div_le_self _ _)) ha
  · exact Nat.le_trans (ln_mono (Nat.div_le_self _ _)) hlb
theorem under_pos {n d : Nat} (hd : 0 < d) (hl : ln d ≤ 1048576) : Ev (ratio_Ratio_under.f (L n, L d)) (L d) := by
  have hb := bl_pos hd
  exact ev_eq ratio_Ratio_under.f_eq (Ev.bind (nbits (by omega)) (ev_neg (by omega) (ev_now rfl)))
theorem under_zero : Ev (ratio_Ratio_under.f (([] : List Int), ([] : List Int))) (L 1) :=
  ev_eq ratio_Ratio_under.f_eq (Ev.bind (nbits (n := 0) (by decide)) (ev_pos rfl (Ev.bind (of_val (n := 1) (by decide)) (ev_now rfl))))
theorem terms_pos {n d : Nat} (hd : 0 < d) (hl : ln d ≤ 1048576) : Ev (ratio_Ratio_Terms.f (L n, L d)) (L n, L d) := ev_eq ratio_Ratio_Terms.f_eq (Ev.bind (under_pos hd hl) (ev_now rfl))
theorem terms_zero : Ev (ratio_Ratio_Terms.f (([] : List Int), ([] : List Int))) ([], L 1) := ev_eq ratio_Ratio_Terms.f_eq (Ev.bind under_zero (ev_now rfl))
theorem ratio_of0 {a : Nat} : Ev (ratio_Of.f (L a) (L 0)) ((([] : List Int), ([] : List Int)), false) :=
  ev_eq ratio_Of.f_eq (Ev.bind (nbits (n := 0) (by decide)) (ev_pos rfl (ev_now rfl)))
theorem ratio_of {a b c : Nat} (hb : 0 < b) (hc : c ≤ 1048576) (ha : ln a ≤ c) (hlb : ln b ≤ c) : ∃ r, RQ r a b c ∧ Ev (ratio_Of.f (L a) (L b)) (r, true) := by
  obtain ⟨r, h1, h2⟩ := lowest hb hc ha hlb
  have h3 := bl_pos hb
  exact ⟨r, h1, ev_eq ratio_Of.f_eq (Ev.bind (nbits (by omega)) (ev_neg (by omega) (Ev.bind h2 (ev_now rfl))))⟩
theorem ratio_of_ex {a b : Nat} (hb : 0 < b) (ha : ln a ≤ 1048576) (hlb : ln b ≤ 1048576) : Ev (ratio_Of.f (L a) (L b)) ((L (a / Nat.gcd a b), L (b / Nat.gcd a b)), true) := by
  have h3 := bl_pos hb
  exact ev_eq ratio_Of.f_eq (Ev.bind (nbits (by omega)) (ev_neg (by omega) (Ev.bind (lowest_ex hb ha hlb) (ev_now rfl))))
theorem crossed {n d m e : Nat} (hd : 0 < d) (he : 0 < e) (h1 : ln n ≤ 1048576) (h2 : ln d ≤ 1048576) (h3 : ln m ≤ 1048576) (h4 : ln e ≤ 1048576) :
    Ev (ratio_crossed.f (L n, L d) (L m, L e)) (L (n * e), L (m * d), L (d * e)) :=
  ev_eq ratio_crossed.f_eq (Ev.bind (under_pos hd h2) (Ev.bind (under_pos he h4) (Ev.bind (nmul (by omega) (by omega)) (Ev.bind (nmul (by omega) (by omega)) (Ev.bind (nmul (by omega) (by omega)) (ev_now rfl))))))
theorem cmp_scale {X Y A B P T : Nat} (h1 : X * P = A * T) (h2 : Y * P = B * T) (hP : 0 < P) (hT : 0 < T) : cmpI X Y = cmpI A B := by
  have lt : X < Y ↔ A < B := by
    rw [← Nat.mul_lt_mul_right hP, h1, h2, Nat.mul_lt_mul_right hT]
  have gt : Y < X ↔ B < A := by
    rw [← Nat.mul_lt_mul_right hP, h1, h2, Nat.mul_lt_mul_right hT]
  unfold cmpI
  by_cases c : X < Y
  · rw [if_pos c, if_pos (lt.mp c)]
  · rw [if_neg c, if_neg (fun h => c (lt.mpr h))]
    by_cases c2 : Y < X
    · rw [if_pos c2, if_pos (gt.mp c2)]
    · rw [if_neg c2, if_neg (fun h => c2 (gt.mpr h))]
theorem cross_eq {n' d' n d m' e' m e : Nat} (h1 : n' * d = n * d') (h2 : m' * e = m * e') : n' * e' * (d * e) = n * e * (d' * e') ∧ m' * d' * (d * e) = m * d * (d' * e') := by
  constructor
  · calc n' * e' * (d * e) = (n' * d) * (e' * e) := by grind
      _ = n * d' * (e' * e) := by rw [h1]
      _ = n * e * (d' * e') := by grind
  · calc m' * d' * (d * e) = (m' * e) * (d' * d) := by grind
      _ = m * e' * (d' * d) := by rw [h2]
      _ = m * d * (d' * e') := by grind
theorem ratio_cmp {r s : List Int × List Int} {n d m e c k : Nat} (h1 : RQ r n d c) (h2 : RQ s m e k) (hd : 0 < d) (he : 0 < e) (hc : c ≤ 262144) (hk : k ≤ 262144) : Ev (ratio_Cmp.f r s) (cmpI (n * e) (m * d)) := by
  obtain ⟨n', d', rfl, p1, _, e1, a1, b1⟩ := h1
  obtain ⟨m', e', rfl, p2, _, e2, a2, b2⟩ := h2
  obtain ⟨x1, x2⟩ := cross_eq e1 e2
  have l1 := ln_mul n' e'
  have l2 := ln_mul m' d'
  rw [← cmp_scale x1 x2 (Nat.mul_pos hd he) (Nat.mul_pos p1 p2)]
  exact ev_eq ratio_Cmp.f_eq (Ev.bind (crossed p1 p2 (by omega) (by omega) (by omega) (by omega)) (Ev.bind (ncmp (by omega) (by omega)) (ev_now rfl)))
theorem ratio_add {r s : List Int × List Int} {n d m e c k : Nat} (h1 : RQ r n d c) (h2 : RQ s m e k) (hd : 0 < d) (he : 0 < e) (hc : c ≤ 262144) (hk : k ≤ 262144) : ∃ t, RQ t (n * e + m * d) (d * e) (c + k + 1) ∧ Ev (ratio_Add.f r s) t := by
  obtain ⟨n', d', rfl, p1, _, e1, a1, b1⟩ := h1
  obtain ⟨m', e', rfl, p2, _, e2, a2, b2⟩ := h2
  obtain ⟨x1, x2⟩ := cross_eq e1 e2
  have l1 := ln_mul n' e'
  have l2 := ln_mul m' d'
  have l3 := ln_mul d' e'
  have l4 := ln_add (n' * e') (m' * d')
  obtain ⟨t, ht, hv⟩ := lowest (a := n' * e' + m' * d') (b := d' * e') (c := c + k + 1) (Nat.mul_pos p1 p2) (by omega) (by omega) (by omega)
  refine ⟨t, ht.trans (Nat.mul_pos p1 p2) (by rw [Nat.add_mul, x1, x2, ← Nat.add_mul]), ?_⟩
  exact ev_eq ratio_Add.f_eq (Ev.bind (crossed p1 p2 (by omega) (by omega) (by omega) (by omega)) (Ev.bind (nadd (by omega) (by omega)) (Ev.bind hv (ev_now rfl))))
theorem ratio_mul {r s : List Int × List Int} {n d m e c k : Nat} (h1 : RQ r n d c) (h2 : RQ s m e k) (hd : 0 < d) (he : 0 < e) (hc : c ≤ 262144) (hk : k ≤ 262144) : ∃ t, RQ t (n * m) (d * e) (c + k) ∧ Ev (ratio_Mul.f r s) t := by
  obtain ⟨n', d', rfl, p1, _, e1, a1, b1⟩ := h1
  obtain ⟨m', e', rfl, p2, _, e2, a2, b2⟩ := h2
  have l1 := ln_mul n' m'
  have l3 := ln_mul d' e'
  obtain ⟨t, ht, hv⟩ := lowest (a := n' * m') (b := d' * e') (c := c + k) (Nat.mul_pos p1 p2) (by omega) (by omega) (by omega)
  refine ⟨t, ht.trans (Nat.mul_pos p1 p2) ?_, ?_⟩
  · calc n' * m' * (d * e) = (n' * d) * (m' * e) := by grind
      _ = n * m * (d' * e') := by rw [e1, e2]; grind
  · exact ev_eq ratio_Mul.f_eq (Ev.bind (nmul (by omega) (by omega)) (Ev.bind (under_pos p1 (by omega)) (Ev.bind (under_pos p2 (by omega)) (Ev.bind (nmul (by omega) (by omega)) (Ev.bind hv (ev_now rfl))))))
/-- How far two numbers are from one another. -/
def ad (a b : Nat) : Nat := (a - b) + (b - a)
theorem ad_mul (a b p : Nat) : ad a b * p = ad (a * p) (b * p) := by unfold ad; rw [Nat.add_mul, Nat.sub_mul, Nat.sub_mul]
theorem ad_le (a b : Nat) : ad a b ≤ max a b := by unfold ad; omega
theorem ad_comm (a b : Nat) : ad a b = ad b a := by unfold ad; omega
theorem ratio_away {r s : List Int × List Int} {n d m e c k : Nat} (h1 : RQ r n d c) (h2 : RQ s m e k) (hd : 0 < d) (he : 0 < e) (hc : c ≤ 262144) (hk : k ≤ 262144) : ∃ t, RQ t (ad (n * e) (m * d)) (d * e) (c + k) ∧ Ev (ratio_Away.f r s) t := by
  obtain ⟨n', d', rfl, p1, _, e1, a1, b1⟩ := h1
  obtain ⟨m', e', rfl, p2, _, e2, a2, b2⟩ := h2
  obtain ⟨x1, x2⟩ := cross_eq e1 e2
  have l1 := ln_mul n' e'
  have l2 := ln_mul m' d'
  have l3 := ln_mul d' e'
  have l5 : ln (ad (n' * e') (m' * d')) ≤ c + k := by
    have := ln_mono (ad_le (n' * e') (m' * d'))
    rcases Nat.le_total (n' * e') (m' * d') with h | h
    · rw [Nat.max_eq_right h] at this; omega
    · rw [Nat.max_eq_left h] at this; omega
  obtain ⟨t, ht, hv⟩ := lowest (a := ad (n' * e') (m' * d')) (b := d' * e') (c := c + k) (Nat.mul_pos p1 p2) (by omega) (by omega) (by omega)
  refine ⟨t, ht.trans (Nat.mul_pos p1 p2) (by rw [ad_mul, x1, x2, ← ad_mul]), ?_⟩
  refine ev_eq ratio_Away.f_eq (Ev.bind (crossed p1 p2 (by omega) (by omega) (by omega) (by omega)) (Ev.bind (ncmp (by omega) (by omega)) ?_))
  rcases Nat.lt_or_ge (n' * e') (m' * d') with h | h
  · have hs := nsub_ge (m := m' * d') (n := n' * e') (by omega) (Nat.le_of_lt h)
    rw [show m' * d' - n' * e' = ad (n' * e') (m' * d') by unfold ad; omega] at hs
    exact ev_pos (cmpI_lt.mpr h) (Ev.bind hs (Ev.bind hv (ev_now rfl)))
  · have hs := nsub_ge (m := n' * e') (n := m' * d') (by omega) h
    rw [show n' * e' - m' * d' = ad (n' * e') (m' * d') by unfold ad; omega] at hs
    exact ev_neg (fun h2 => by have := cmpI_lt.mp h2; omega) (Ev.bind hs (Ev.bind hv (ev_now rfl)))
/-! ### the document's -/
end Go.Proofs.Yteidggfjcanbjaa.F
