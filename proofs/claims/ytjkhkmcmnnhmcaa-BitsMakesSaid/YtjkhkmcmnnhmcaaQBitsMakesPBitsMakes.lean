/- A value has bits just if some have that value: then these bits have it, else none are told; of every value that comes in, and of a Finite one made of it. -/
import Derived.Test.YtjkhkmcmnnhmcaaQBitsMakesY07
namespace Go.Proofs.Ytjkhkmcmnnhmcaa.Pure
open Go Go.Proofs.Ytjkhkmcmnnhmcaa.E Go.Proofs.Ytjkhkmcmnnhmcaa.F
set_option linter.unusedVariables false
set_option linter.unusedSimpArgs false
theorem ev_split {α : Type} {c : Prop} [Decidable c] {a b : M α} {r : α} (ha : c → Ev a r) (hb : ¬ c → Ev b r) : Ev (if c then a else b) r := by
  by_cases h : c
  · exact ev_pos h (ha h)
  · exact ev_neg h (hb h)
theorem fin_any (t v : Int × Bool × Int × Int) (b : Int) : Ev (if ¬ (t.1 = v.1 ∧ t.2.1 = v.2.1 ∧ t.2.2.1 = v.2.2.1 ∧ t.2.2.2 = v.2.2.2) then M.ret ((0 : Int), false) else M.ret (b, true)) ((if decide (t = v) = true then b else 0), decide (t = v)) := by
  by_cases h : t = v
  · subst h
    exact ev_neg (fun h => h ⟨rfl, rfl, rfl, rfl⟩) (ev_now (by simp))
  · have hne : ¬ (t.1 = v.1 ∧ t.2.1 = v.2.1 ∧ t.2.2.1 = v.2.2.1 ∧ t.2.2.2 = v.2.2.2) := by
      intro h2
      apply h
      obtain ⟨a, b, c, d⟩ := t
      obtain ⟨a', b', c', d'⟩ := v
      simp only at h2
      rw [h2.1, h2.2.1, h2.2.2.1, h2.2.2.2]
    exact ev_pos hne (ev_now (by simp [h]))
/-- Which values bits have. -/
def May (c : Int) (n : Bool) (m : Nat) (x : Int) : Prop := ((c = 0 ∨ c = 2) ∧ m = 0 ∧ x = 0) ∨ (c = 3 ∧ m = 0 ∧ x = 0 ∧ n = false) ∨ (c = 1 ∧ ((4503599627370496 ≤ m ∧ m < 9007199254740992 ∧ -1074 ≤ x ∧ x ≤ 971) ∨ (1 ≤ m ∧ m < 4503599627370496 ∧ x = -1074)))
theorem any_bits_false {c x : Int} {m : Nat} (hc : 0 ≤ c ∧ c ≤ 4) (hm : m < 18446744073709551616) (hx : -9223372036854775808 ≤ x ∧ x < 9223372036854775808) :
    ∃ (b : Int) (ok : Bool), Ev (bits_Value_Bits.f (c, false, (m : Int), x)) ((if ok = true then b else 0), ok) ∧ (ok = true → Ev (bits_Of.f b) (c, false, (m : Int), x)) ∧ (ok = true ↔ May c false m x) := by
  have sgn : ∀ r : Nat, r < 9223372036854775808 → ∀ y : Int, y = (r : Int) → IntKind.u64.wrap ((BitVec.ofInt IntKind.u64.bits y ||| BitVec.ofInt IntKind.u64.bits 9223372036854775808).toNat) = ((9223372036854775808 + r : Nat) : Int) := by
    intro r h y hy
    rw [b64_or (a := r) (b := 9223372036854775808) (y := 9223372036854775808) (by omega) (by decide) hy rfl, or_sign h]
  have fin : ∀ (e f : Nat), e < 2048 → f < 4503599627370496 → ∀ B : Int, B = ((W 0 e f : Nat) : Int) → Ev (bits_Value_Bits.f (c, false, (m : Int), x)) ((if decide (V 0 e f = (c, false, (m : Int), x)) = true then B else 0), decide (V 0 e f = (c, false, (m : Int), x))) → (V 0 e f = (c, false, (m : Int), x) ↔ May c false m x) →
      ∃ (b : Int) (ok : Bool), Ev (bits_Value_Bits.f (c, false, (m : Int), x)) ((if ok = true then b else 0), ok) ∧ (ok = true → Ev (bits_Of.f b) (c, false, (m : Int), x)) ∧ (ok = true ↔ May c false m x) := by
    intro e f he hf B hB h1 h2
    refine ⟨_, _, h1, fun h => ?_, by rw [decide_eq_true_iff]; exact h2⟩
    have h3 := of_decide_eq_true h
    rw [← h3, hB]
    exact bits_of (by decide) he hf
  by_cases c2 : c = 2
  · subst c2
    have hb := bits_of (s := 0) (e := 2047) (f := 0) (by decide) (by decide) (by decide)
    have hW : ((W 0 2047 0 : Nat) : Int) = 9218868437227405312 := by decide
    rw [hW] at hb
    have hV : V 0 2047 0 = (2, false, 0, 0) := by decide
    refine fin 2047 0 (by decide) (by decide) (9218868437227405312) hW.symm ?_ ?_
    · refine ev_eq bits_Value_Bits.f_eq ?_
      dsimp only
      skip
      exact ev_pos rfl (ev_neg (by simp) (Ev.bind hb (fin_any (V 0 2047 0) (2, false, (m : Int), x) (9218868437227405312))))
    · unfold May
      rw [hV]
      (first | (simp only [Prod.mk.injEq, eq_self, true_and, and_true, Bool.false_eq_true, Bool.true_eq_false, and_false, false_and, or_false, false_or, or_true, true_or, false_iff, iff_false, true_iff, iff_true, reduceCtorEq]; done) | (simp only [Prod.mk.injEq, eq_self, true_and, and_true, Bool.false_eq_true, Bool.true_eq_false, and_false, false_and, or_false, false_or, or_true, true_or, false_iff, iff_false, true_iff, iff_true, reduceCtorEq]; omega) | omega)
  by_cases c3 : c = 3
  · subst c3
    have hb := bits_of (s := 0) (e := 2047) (f := 2251799813685248) (by decide) (by decide) (by decide)
    have hW : ((W 0 2047 2251799813685248 : Nat) : Int) = 9221120237041090560 := by decide
    rw [hW] at hb
    have hV : V 0 2047 2251799813685248 = (3, false, 0, 0) := by decide
    refine fin 2047 2251799813685248 (by decide) (by decide) (9221120237041090560) hW.symm ?_ ?_
    · refine ev_eq bits_Value_Bits.f_eq ?_
      dsimp only
      skip
      exact ev_neg (by decide) (ev_pos rfl (ev_neg (by simp) (Ev.bind hb (fin_any (V 0 2047 2251799813685248) (3, false, (m : Int), x) (9221120237041090560)))))
    · unfold May
      rw [hV]
      (first | (simp only [Prod.mk.injEq, eq_self, true_and, and_true, Bool.false_eq_true, Bool.true_eq_false, and_false, false_and, or_false, false_or, or_true, true_or, false_iff, iff_false, true_iff, iff_true, reduceCtorEq]; done) | (simp only [Prod.mk.injEq, eq_self, true_and, and_true, Bool.false_eq_true, Bool.true_eq_false, and_false, false_and, or_false, false_or, or_true, true_or, false_iff, iff_false, true_iff, iff_true, reduceCtorEq]; omega) | omega)
  by_cases c1 : c = 1
  · subst c1
    have hmask : IntKind.u64.wrap ((BitVec.ofInt IntKind.u64.bits (m : Int) &&& BitVec.ofInt IntKind.u64.bits 4503599627370495).toNat) = ((m % 4503599627370496 : Nat) : Int) := by
      rw [b64_and (a := m) (b := 4503599627370495) (y := 4503599627370495) hm (by decide) rfl rfl, and_mask52]
    have hfl : m % 4503599627370496 < 4503599627370496 := Nat.mod_lt _ (by decide)
    by_cases hb : 4503599627370496 ≤ m
    · obtain ⟨E, hE⟩ : ∃ E : Nat, (E : Int) = (x + 1075) % 2048 := ⟨((x + 1075) % 2048).toNat, by omega⟩
      have hE2 : E < 2048 := by omega
      have hy : IntKind.u64.wrap ((BitVec.ofInt IntKind.u64.bits (IntKind.u64.wrap (IntKind.i64.wrap (x + 1075))) &&& BitVec.ofInt IntKind.u64.bits 2047).toNat) = (E : Int) := by
        obtain ⟨Y, hY⟩ : ∃ Y : Nat, IntKind.u64.wrap (IntKind.i64.wrap (x + 1075)) = (Y : Int) := ⟨(IntKind.u64.wrap (IntKind.i64.wrap (x + 1075))).toNat, by rw [u64_def]; omega⟩
        have hY2 : (Y : Int) = (x + 1075) % 18446744073709551616 := by rw [← hY, u64_def, i64_def]; split <;> omega
        rw [hY, b64_and (a := Y) (b := 2047) (y := 2047) (by omega) (by decide) rfl rfl, and_mask11]
        omega
      have hsh : IntKind.u64.wrap ((E : Int) * 2 ^ 52) = ((E * 4503599627370496 : Nat) : Int) := by rw [show (E : Int) * 2 ^ 52 = ((E * 4503599627370496 : Nat) : Int) by omega, wrap_u64_nat (by omega)]
      have hor : IntKind.u64.wrap ((BitVec.ofInt IntKind.u64.bits ((m % 4503599627370496 : Nat) : Int) ||| BitVec.ofInt IntKind.u64.bits ((E * 4503599627370496 : Nat) : Int)).toNat) = ((E * 4503599627370496 + m % 4503599627370496 : Nat) : Int) := by
        rw [b64_or (a := m % 4503599627370496) (b := E * 4503599627370496) (by omega) (by omega) rfl rfl, or_hidden E hfl]
      have h0 := bits_of (s := 0) (e := E) (f := m % 4503599627370496) (by decide) hE2 hfl
      have hW : W 0 E (m % 4503599627370496) = E * 4503599627370496 + m % 4503599627370496 := by unfold W; omega
      rw [hW] at h0
      refine fin E (m % 4503599627370496) hE2 hfl ((E * 4503599627370496 + m % 4503599627370496 : Nat) : Int) (by rw [hW]) ?_ ?_
      · refine ev_eq bits_Value_Bits.f_eq ?_
        dsimp only
        rw [hmask, hy, hsh, hor, sgn (E * 4503599627370496 + m % 4503599627370496) (by omega) _ rfl]
        exact ev_neg (by decide) (ev_neg (by decide) (ev_pos rfl (ev_pos (by omega) (ev_neg (by simp) (Ev.bind h0 (fin_any (V 0 E (m % 4503599627370496)) (1, false, (m : Int), x) ((E * 4503599627370496 + m % 4503599627370496 : Nat) : Int)))))))
      · unfold May V
        rw [show decide ((0 : Nat) = 1) = false from rfl]
        split
        · split
          · (first | (simp only [Prod.mk.injEq, eq_self, true_and, and_true, Bool.false_eq_true, Bool.true_eq_false, and_false, false_and, or_false, false_or, or_true, true_or, false_iff, iff_false, true_iff, iff_true, reduceCtorEq]; done) | (simp only [Prod.mk.injEq, eq_self, true_and, and_true, Bool.false_eq_true, Bool.true_eq_false, and_false, false_and, or_false, false_or, or_true, true_or, false_iff, iff_false, true_iff, iff_true, reduceCtorEq]; omega) | omega)
          · (first | (simp only [Prod.mk.injEq, eq_self, true_and, and_true, Bool.false_eq_true, Bool.true_eq_false, and_false, false_and, or_false, false_or, or_true, true_or, false_iff, iff_false, true_iff, iff_true, reduceCtorEq]; done) | (simp only [Prod.mk.injEq, eq_self, true_and, and_true, Bool.false_eq_true, Bool.true_eq_false, and_false, false_and, or_false, false_or, or_true, true_or, false_iff, iff_false, true_iff, iff_true, reduceCtorEq]; omega) | omega)
        · split
          · split
            · (first | (simp only [Prod.mk.injEq, eq_self, true_and, and_true, Bool.false_eq_true, Bool.true_eq_false, and_false, false_and, or_false, false_or, or_true, true_or, false_iff, iff_false, true_iff, iff_true, reduceCtorEq]; done) | (simp only [Prod.mk.injEq, eq_self, true_and, and_true, Bool.false_eq_true, Bool.true_eq_false, and_false, false_and, or_false, false_or, or_true, true_or, false_iff, iff_false, true_iff, iff_true, reduceCtorEq]; omega) | omega)
            · (first | (simp only [Prod.mk.injEq, eq_self, true_and, and_true, Bool.false_eq_true, Bool.true_eq_false, and_false, false_and, or_false, false_or, or_true, true_or, false_iff, iff_false, true_iff, iff_true, reduceCtorEq]; done) | (simp only [Prod.mk.injEq, eq_self, true_and, and_true, Bool.false_eq_true, Bool.true_eq_false, and_false, false_and, or_false, false_or, or_true, true_or, false_iff, iff_false, true_iff, iff_true, reduceCtorEq]; omega) | omega)
          · (first | (simp only [Prod.mk.injEq, eq_self, true_and, and_true, Bool.false_eq_true, Bool.true_eq_false, and_false, false_and, or_false, false_or, or_true, true_or, false_iff, iff_false, true_iff, iff_true, reduceCtorEq]; done) | (simp only [Prod.mk.injEq, eq_self, true_and, and_true, Bool.false_eq_true, Bool.true_eq_false, and_false, false_and, or_false, false_or, or_true, true_or, false_iff, iff_false, true_iff, iff_true, reduceCtorEq]; omega) | omega)
    · have h0 := bits_of (s := 0) (e := 0) (f := m) (by decide) (by decide) (by omega)
      have hW : W 0 0 m = m := by unfold W; omega
      rw [hW] at h0
      refine fin 0 m (by decide) (by omega) ((m : Nat) : Int) (by rw [hW]) ?_ ?_
      · refine ev_eq bits_Value_Bits.f_eq ?_
        dsimp only
        rw [hmask, Nat.mod_eq_of_lt (by omega : m < 4503599627370496), sgn m (by omega) _ rfl]
        exact ev_neg (by decide) (ev_neg (by decide) (ev_pos rfl (ev_neg (by omega) (ev_neg (by simp) (Ev.bind h0 (fin_any (V 0 0 m) (1, false, (m : Int), x) ((m : Nat) : Int)))))))
      · unfold May V
        rw [show decide ((0 : Nat) = 1) = false from rfl, if_neg (by decide), if_pos rfl]
        split
        · (first | (simp only [Prod.mk.injEq, eq_self, true_and, and_true, Bool.false_eq_true, Bool.true_eq_false, and_false, false_and, or_false, false_or, or_true, true_or, false_iff, iff_false, true_iff, iff_true, reduceCtorEq]; done) | (simp only [Prod.mk.injEq, eq_self, true_and, and_true, Bool.false_eq_true, Bool.true_eq_false, and_false, false_and, or_false, false_or, or_true, true_or, false_iff, iff_false, true_iff, iff_true, reduceCtorEq]; omega) | omega)
        · (first | (simp only [Prod.mk.injEq, eq_self, true_and, and_true, Bool.false_eq_true, Bool.true_eq_false, and_false, false_and, or_false, false_or, or_true, true_or, false_iff, iff_false, true_iff, iff_true, reduceCtorEq]; done) | (simp only [Prod.mk.injEq, eq_self, true_and, and_true, Bool.false_eq_true, Bool.true_eq_false, and_false, false_and, or_false, false_or, or_true, true_or, false_iff, iff_false, true_iff, iff_true, reduceCtorEq]; omega) | omega)
  · have hb := bits_of (s := 0) (e := 0) (f := 0) (by decide) (by decide) (by decide)
    have hW : ((W 0 0 0 : Nat) : Int) = 0 := by decide
    rw [hW] at hb
    have hV : V 0 0 0 = (0, false, 0, 0) := by decide
    refine fin 0 0 (by decide) (by decide) (0) hW.symm ?_ ?_
    · refine ev_eq bits_Value_Bits.f_eq ?_
      dsimp only
      skip
      exact ev_neg c2 (ev_neg c3 (ev_neg c1 (ev_neg (by simp) (Ev.bind hb (fin_any (V 0 0 0) (c, false, (m : Int), x) (0))))))
    · unfold May
      rw [hV]
      (first | (simp only [Prod.mk.injEq, eq_self, true_and, and_true, Bool.false_eq_true, Bool.true_eq_false, and_false, false_and, or_false, false_or, or_true, true_or, false_iff, iff_false, true_iff, iff_true, reduceCtorEq]; done) | (simp only [Prod.mk.injEq, eq_self, true_and, and_true, Bool.false_eq_true, Bool.true_eq_false, and_false, false_and, or_false, false_or, or_true, true_or, false_iff, iff_false, true_iff, iff_true, reduceCtorEq]; omega) | omega)
theorem any_bits_true {c x : Int} {m : Nat} (hc : 0 ≤ c ∧ c ≤ 4) (hm : m < 18446744073709551616) (hx : -9223372036854775808 ≤ x ∧ x < 9223372036854775808) :
    ∃ (b : Int) (ok : Bool), Ev (bits_Value_Bits.f (c, true, (m : Int), x)) ((if ok = true then b else 0), ok) ∧ (ok = true → Ev (bits_Of.f b) (c, true, (m : Int), x)) ∧ (ok = true ↔ May c true m x) := by
  have sgn : ∀ r : Nat, r < 9223372036854775808 → ∀ y : Int, y = (r : Int) → IntKind.u64.wrap ((BitVec.ofInt IntKind.u64.bits y ||| BitVec.ofInt IntKind.u64.bits 9223372036854775808).toNat) = ((9223372036854775808 + r : Nat) : Int) := by
    intro r h y hy
    rw [b64_or (a := r) (b := 9223372036854775808) (y := 9223372036854775808) (by omega) (by decide) hy rfl, or_sign h]
  have fin : ∀ (e f : Nat), e < 2048 → f < 4503599627370496 → ∀ B : Int, B = ((W 1 e f : Nat) : Int) → Ev (bits_Value_Bits.f (c, true, (m : Int), x)) ((if decide (V 1 e f = (c, true, (m : Int), x)) = true then B else 0), decide (V 1 e f = (c, true, (m : Int), x))) → (V 1 e f = (c, true, (m : Int), x) ↔ May c true m x) →
      ∃ (b : Int) (ok : Bool), Ev (bits_Value_Bits.f (c, true, (m : Int), x)) ((if ok = true then b else 0), ok) ∧ (ok = true → Ev (bits_Of.f b) (c, true, (m : Int), x)) ∧ (ok = true ↔ May c true m x) := by
    intro e f he hf B hB h1 h2
    refine ⟨_, _, h1, fun h => ?_, by rw [decide_eq_true_iff]; exact h2⟩
    have h3 := of_decide_eq_true h
    rw [← h3, hB]
    exact bits_of (by decide) he hf
  by_cases c2 : c = 2
  · subst c2
    have hb := bits_of (s := 1) (e := 2047) (f := 0) (by decide) (by decide) (by decide)
    have hW : ((W 1 2047 0 : Nat) : Int) = ((9223372036854775808 + 9218868437227405312 : Nat) : Int) := by decide
    rw [hW] at hb
    have hV : V 1 2047 0 = (2, true, 0, 0) := by decide
    refine fin 2047 0 (by decide) (by decide) (((9223372036854775808 + 9218868437227405312 : Nat) : Int)) hW.symm ?_ ?_
    · refine ev_eq bits_Value_Bits.f_eq ?_
      dsimp only
      rw [sgn (9218868437227405312) (by decide) 9218868437227405312 rfl]
      exact ev_pos rfl (ev_pos rfl (Ev.bind hb (fin_any (V 1 2047 0) (2, true, (m : Int), x) (((9223372036854775808 + 9218868437227405312 : Nat) : Int)))))
    · unfold May
      rw [hV]
      (first | (simp only [Prod.mk.injEq, eq_self, true_and, and_true, Bool.false_eq_true, Bool.true_eq_false, and_false, false_and, or_false, false_or, or_true, true_or, false_iff, iff_false, true_iff, iff_true, reduceCtorEq]; done) | (simp only [Prod.mk.injEq, eq_self, true_and, and_true, Bool.false_eq_true, Bool.true_eq_false, and_false, false_and, or_false, false_or, or_true, true_or, false_iff, iff_false, true_iff, iff_true, reduceCtorEq]; omega) | omega)
  by_cases c3 : c = 3
  · subst c3
    have hb := bits_of (s := 1) (e := 2047) (f := 2251799813685248) (by decide) (by decide) (by decide)
    have hW : ((W 1 2047 2251799813685248 : Nat) : Int) = ((9223372036854775808 + 9221120237041090560 : Nat) : Int) := by decide
    rw [hW] at hb
    have hV : V 1 2047 2251799813685248 = (3, false, 0, 0) := by decide
    refine fin 2047 2251799813685248 (by decide) (by decide) (((9223372036854775808 + 9221120237041090560 : Nat) : Int)) hW.symm ?_ ?_
    · refine ev_eq bits_Value_Bits.f_eq ?_
      dsimp only
      rw [sgn (9221120237041090560) (by decide) 9221120237041090560 rfl]
      exact ev_neg (by decide) (ev_pos rfl (ev_pos rfl (Ev.bind hb (fin_any (V 1 2047 2251799813685248) (3, true, (m : Int), x) (((9223372036854775808 + 9221120237041090560 : Nat) : Int))))))
    · unfold May
      rw [hV]
      (first | (simp only [Prod.mk.injEq, eq_self, true_and, and_true, Bool.false_eq_true, Bool.true_eq_false, and_false, false_and, or_false, false_or, or_true, true_or, false_iff, iff_false, true_iff, iff_true, reduceCtorEq]; done) | (simp only [Prod.mk.injEq, eq_self, true_and, and_true, Bool.false_eq_true, Bool.true_eq_false, and_false, false_and, or_false, false_or, or_true, true_or, false_iff, iff_false, true_iff, iff_true, reduceCtorEq]; omega) | omega)
  by_cases c1 : c = 1
  · subst c1
    have hmask : IntKind.u64.wrap ((BitVec.ofInt IntKind.u64.bits (m : Int) &&& BitVec.ofInt IntKind.u64.bits 4503599627370495).toNat) = ((m % 4503599627370496 : Nat) : Int) := by
      rw [b64_and (a := m) (b := 4503599627370495) (y := 4503599627370495) hm (by decide) rfl rfl, and_mask52]
    have hfl : m % 4503599627370496 < 4503599627370496 := Nat.mod_lt _ (by decide)
    by_cases hb : 4503599627370496 ≤ m
    · obtain ⟨E, hE⟩ : ∃ E : Nat, (E : Int) = (x + 1075) % 2048 := ⟨((x + 1075) % 2048).toNat, by omega⟩
      have hE2 : E < 2048 := by omega
      have hy : IntKind.u64.wrap ((BitVec.ofInt IntKind.u64.bits (IntKind.u64.wrap (IntKind.i64.wrap (x + 1075))) &&& BitVec.ofInt IntKind.u64.bits 2047).toNat) = (E : Int) := by
        obtain ⟨Y, hY⟩ : ∃ Y : Nat, IntKind.u64.wrap (IntKind.i64.wrap (x + 1075)) = (Y : Int) := ⟨(IntKind.u64.wrap (IntKind.i64.wrap (x + 1075))).toNat, by rw [u64_def]; omega⟩
        have hY2 : (Y : Int) = (x + 1075) % 18446744073709551616 := by rw [← hY, u64_def, i64_def]; split <;> omega
        rw [hY, b64_and (a := Y) (b := 2047) (y := 2047) (by omega) (by decide) rfl rfl, and_mask11]
        omega
      have hsh : IntKind.u64.wrap ((E : Int) * 2 ^ 52) = ((E * 4503599627370496 : Nat) : Int) := by rw [show (E : Int) * 2 ^ 52 = ((E * 4503599627370496 : Nat) : Int) by omega, wrap_u64_nat (by omega)]
      have hor : IntKind.u64.wrap ((BitVec.ofInt IntKind.u64.bits ((m % 4503599627370496 : Nat) : Int) ||| BitVec.ofInt IntKind.u64.bits ((E * 4503599627370496 : Nat) : Int)).toNat) = ((E * 4503599627370496 + m % 4503599627370496 : Nat) : Int) := by
        rw [b64_or (a := m % 4503599627370496) (b := E * 4503599627370496) (by omega) (by omega) rfl rfl, or_hidden E hfl]
      have h0 := bits_of (s := 1) (e := E) (f := m % 4503599627370496) (by decide) hE2 hfl
      have hW : W 1 E (m % 4503599627370496) = 9223372036854775808 + (E * 4503599627370496 + m % 4503599627370496) := by unfold W; omega
      rw [hW] at h0
      refine fin E (m % 4503599627370496) hE2 hfl ((9223372036854775808 + (E * 4503599627370496 + m % 4503599627370496) : Nat) : Int) (by rw [hW]) ?_ ?_
      · refine ev_eq bits_Value_Bits.f_eq ?_
        dsimp only
        rw [hmask, hy, hsh, hor, sgn (E * 4503599627370496 + m % 4503599627370496) (by omega) _ rfl]
        exact ev_neg (by decide) (ev_neg (by decide) (ev_pos rfl (ev_pos (by omega) (ev_pos rfl (Ev.bind h0 (fin_any (V 1 E (m % 4503599627370496)) (1, true, (m : Int), x) ((9223372036854775808 + (E * 4503599627370496 + m % 4503599627370496) : Nat) : Int)))))))
      · unfold May V
        rw [show decide ((1 : Nat) = 1) = true from rfl]
        split
        · split
          · (first | (simp only [Prod.mk.injEq, eq_self, true_and, and_true, Bool.false_eq_true, Bool.true_eq_false, and_false, false_and, or_false, false_or, or_true, true_or, false_iff, iff_false, true_iff, iff_true, reduceCtorEq]; done) | (simp only [Prod.mk.injEq, eq_self, true_and, and_true, Bool.false_eq_true, Bool.true_eq_false, and_false, false_and, or_false, false_or, or_true, true_or, false_iff, iff_false, true_iff, iff_true, reduceCtorEq]; omega) | omega)
          · (first | (simp only [Prod.mk.injEq, eq_self, true_and, and_true, Bool.false_eq_true, Bool.true_eq_false, and_false, false_and, or_false, false_or, or_true, true_or, false_iff, iff_false, true_iff, iff_true, reduceCtorEq]; done) | (simp only [Prod.mk.injEq, eq_self, true_and, and_true, Bool.false_eq_true, Bool.true_eq_false, and_false, false_and, or_false, false_or, or_true, true_or, false_iff, iff_false, true_iff, iff_true, reduceCtorEq]; omega) | omega)
        · split
          · split
            · (first | (simp only [Prod.mk.injEq, eq_self, true_and, and_true, Bool.false_eq_true, Bool.true_eq_false, and_false, false_and, or_false, false_or, or_true, true_or, false_iff, iff_false, true_iff, iff_true, reduceCtorEq]; done) | (simp only [Prod.mk.injEq, eq_self, true_and, and_true, Bool.false_eq_true, Bool.true_eq_false, and_false, false_and, or_false, false_or, or_true, true_or, false_iff, iff_false, true_iff, iff_true, reduceCtorEq]; omega) | omega)
            · (first | (simp only [Prod.mk.injEq, eq_self, true_and, and_true, Bool.false_eq_true, Bool.true_eq_false, and_false, false_and, or_false, false_or, or_true, true_or, false_iff, iff_false, true_iff, iff_true, reduceCtorEq]; done) | (simp only [Prod.mk.injEq, eq_self, true_and, and_true, Bool.false_eq_true, Bool.true_eq_false, and_false, false_and, or_false, false_or, or_true, true_or, false_iff, iff_false, true_iff, iff_true, reduceCtorEq]; omega) | omega)
          · (first | (simp only [Prod.mk.injEq, eq_self, true_and, and_true, Bool.false_eq_true, Bool.true_eq_false, and_false, false_and, or_false, false_or, or_true, true_or, false_iff, iff_false, true_iff, iff_true, reduceCtorEq]; done) | (simp only [Prod.mk.injEq, eq_self, true_and, and_true, Bool.false_eq_true, Bool.true_eq_false, and_false, false_and, or_false, false_or, or_true, true_or, false_iff, iff_false, true_iff, iff_true, reduceCtorEq]; omega) | omega)
    · have h0 := bits_of (s := 1) (e := 0) (f := m) (by decide) (by decide) (by omega)
      have hW : W 1 0 m = 9223372036854775808 + m := by unfold W; omega
      rw [hW] at h0
      refine fin 0 m (by decide) (by omega) ((9223372036854775808 + m : Nat) : Int) (by rw [hW]) ?_ ?_
      · refine ev_eq bits_Value_Bits.f_eq ?_
        dsimp only
        rw [hmask, Nat.mod_eq_of_lt (by omega : m < 4503599627370496), sgn m (by omega) _ rfl]
        exact ev_neg (by decide) (ev_neg (by decide) (ev_pos rfl (ev_neg (by omega) (ev_pos rfl (Ev.bind h0 (fin_any (V 1 0 m) (1, true, (m : Int), x) ((9223372036854775808 + m : Nat) : Int)))))))
      · unfold May V
        rw [show decide ((1 : Nat) = 1) = true from rfl, if_neg (by decide), if_pos rfl]
        split
        · (first | (simp only [Prod.mk.injEq, eq_self, true_and, and_true, Bool.false_eq_true, Bool.true_eq_false, and_false, false_and, or_false, false_or, or_true, true_or, false_iff, iff_false, true_iff, iff_true, reduceCtorEq]; done) | (simp only [Prod.mk.injEq, eq_self, true_and, and_true, Bool.false_eq_true, Bool.true_eq_false, and_false, false_and, or_false, false_or, or_true, true_or, false_iff, iff_false, true_iff, iff_true, reduceCtorEq]; omega) | omega)
        · (first | (simp only [Prod.mk.injEq, eq_self, true_and, and_true, Bool.false_eq_true, Bool.true_eq_false, and_false, false_and, or_false, false_or, or_true, true_or, false_iff, iff_false, true_iff, iff_true, reduceCtorEq]; done) | (simp only [Prod.mk.injEq, eq_self, true_and, and_true, Bool.false_eq_true, Bool.true_eq_false, and_false, false_and, or_false, false_or, or_true, true_or, false_iff, iff_false, true_iff, iff_true, reduceCtorEq]; omega) | omega)
  · have hb := bits_of (s := 1) (e := 0) (f := 0) (by decide) (by decide) (by decide)
    have hW : ((W 1 0 0 : Nat) : Int) = ((9223372036854775808 + 0 : Nat) : Int) := by decide
    rw [hW] at hb
    have hV : V 1 0 0 = (0, true, 0, 0) := by decide
    refine fin 0 0 (by decide) (by decide) (((9223372036854775808 + 0 : Nat) : Int)) hW.symm ?_ ?_
    · refine ev_eq bits_Value_Bits.f_eq ?_
      dsimp only
      rw [sgn (0) (by decide) 0 rfl]
      exact ev_neg c2 (ev_neg c3 (ev_neg c1 (ev_pos rfl (Ev.bind hb (fin_any (V 1 0 0) (c, true, (m : Int), x) (((9223372036854775808 + 0 : Nat) : Int)))))))
    · unfold May
      rw [hV]
      (first | (simp only [Prod.mk.injEq, eq_self, true_and, and_true, Bool.false_eq_true, Bool.true_eq_false, and_false, false_and, or_false, false_or, or_true, true_or, false_iff, iff_false, true_iff, iff_true, reduceCtorEq]; done) | (simp only [Prod.mk.injEq, eq_self, true_and, and_true, Bool.false_eq_true, Bool.true_eq_false, and_false, false_and, or_false, false_or, or_true, true_or, false_iff, iff_false, true_iff, iff_true, reduceCtorEq]; omega) | omega)
theorem any_bits {c x : Int} {n : Bool} {m : Nat} (hc : 0 ≤ c ∧ c ≤ 4) (hm : m < 18446744073709551616) (hx : -9223372036854775808 ≤ x ∧ x < 9223372036854775808) :
    ∃ (b : Int) (ok : Bool), Ev (bits_Value_Bits.f (c, n, (m : Int), x)) ((if ok = true then b else 0), ok) ∧ (ok = true → Ev (bits_Of.f b) (c, n, (m : Int), x)) ∧ (ok = true ↔ May c n m x) := by
  cases n
  · exact any_bits_false hc hm hx
  · exact any_bits_true hc hm hx
theorem BitsMakes (c : Int) (n : Bool) (mm x : Int) (h0 : (Lit.int .u8 c).wf = true) (h2 : (Lit.int .u64 mm).wf = true) (h3 : (Lit.int .i64 x).wf = true) : Ev (numerarylaw07_BitsMakes.f (c, n, mm, x)) true := by
  obtain ⟨h0a, h0b⟩ := wf_u8 h0
  obtain ⟨h2a, h2b⟩ := wf_u64 h2
  obtain ⟨h3a, h3b⟩ := wf_i64 h3
  obtain ⟨m, rfl⟩ : ∃ m : Nat, mm = (m : Int) := ⟨mm.toNat, by omega⟩
  have round : ∀ (l : List (Int × Bool × Int × Int)) (i : Nat) (c : Int) (n : Bool) (m : Nat) (x : Int), l.length = 2 → i < 2 → rdT (.agg (.pair (.int .i64) (.pair .bool (.pair (.int .u64) (.int .i64))))) l (i : Int) = (c, n, (m : Int), x) → (0 ≤ c ∧ c ≤ 4) → m < 18446744073709551616 → (-9223372036854775808 ≤ x ∧ x < 9223372036854775808) →
      Ev (numerarylaw07_BitsMakes.l0 l 2 ((i + 1 : Nat) : Int)) true → Ev (numerarylaw07_BitsMakes.l0 l 2 (i : Int)) true := by
    intro l i c n m x hl hi hr hc hm hx nxt
    obtain ⟨b, ok, hb, hof, hmay⟩ := any_bits (n := n) hc hm hx
    refine ev_loop numerarylaw07_BitsMakes.l0_eq numerarylaw07_BitsMakes.l0_step (ev_pos (by omega) (ev_pos (by omega) (ev_pos (by omega) ?_)))
    rw [hr, succ_wrap (by omega)]
    dsimp only [Ty.D]
    unfold May at hmay
    cases ok with
    | true =>
      have hof := hof rfl
      have hmay := hmay.mp rfl
      simp only [if_true] at hb
      cases n <;> simp only [Bool.false_eq_true, Bool.true_eq_false, and_true, and_false, false_or, or_false] at hmay <;> (repeat' (refine ev_split (fun _ => ?_) (fun _ => ?_))) <;> first
        | (exfalso; omega)
        | (refine Ev.bind hb (ev_neg ?_ (ev_pos rfl (Ev.bind hof (ev_neg (fun h => h ⟨rfl, rfl, rfl, rfl⟩) (ev_neg (by simp) nxt))))); first | exact fun h => h rfl | exact fun h => h (decide_eq_true (by omega)).symm)
        | (exfalso; simp_all; done)
    | false =>
      have hmay : ¬ _ := fun h => by have := hmay.mpr h; cases this
      simp only [Bool.false_eq_true, if_false] at hb
      cases n <;> simp only [Bool.false_eq_true, Bool.true_eq_false, and_true, and_false, false_or, or_false] at hmay <;> (repeat' (refine ev_split (fun _ => ?_) (fun _ => ?_))) <;> first
        | (refine Ev.bind hb (ev_neg (fun h => h rfl) (ev_neg (by simp) (ev_pos rfl (ev_neg (by simp) nxt)))))
        | (refine Ev.bind hb (ev_neg ?_ (ev_neg (by simp) (ev_pos rfl (ev_neg (by simp) nxt)))); exact fun h => h (decide_eq_false (by omega)).symm)
        | (exfalso; omega)
        | (exfalso; simp_all; done)
  obtain ⟨C, hC, hC2⟩ : ∃ C : Int, IntKind.i64.wrap (c.tmod 5) = C ∧ 0 ≤ C ∧ C ≤ 4 := ⟨_, rfl, by rw [Int.tmod_eq_emod_of_nonneg h0a, wrap_id (by omega) (by omega)]; omega, by rw [Int.tmod_eq_emod_of_nonneg h0a, wrap_id (by omega) (by omega)]; omega⟩
  have hfd : (m : Int).fdiv (2 ^ 11) = ((m / 2048 : Nat) : Int) := by rw [Int.fdiv_eq_ediv_of_nonneg _ (by decide)]; omega
  obtain ⟨X, hX, hX2⟩ : ∃ X : Int, IntKind.i64.wrap ((-1074) + ((mxI 0 x).tmod 2050)) = X ∧ -9223372036854775808 ≤ X ∧ X < 9223372036854775808 := ⟨_, rfl, by rw [i64_def]; split <;> omega, by rw [i64_def]; split <;> omega⟩
  refine ev_eq numerarylaw07_BitsMakes.f_eq ?_
  dsimp only
  rw [hC, hfd, hX]
  refine round _ 0 C n m x rfl (by decide) rfl hC2 (by omega) ⟨h3a, h3b⟩ (round _ 1 1 n (m / 2048) X rfl (by decide) rfl (by decide) (by omega) hX2 ?_)
  exact ev_loop numerarylaw07_BitsMakes.l0_eq numerarylaw07_BitsMakes.l0_step (ev_neg (by omega) (Ev.bind wakes07 (ev_now rfl)))
end Go.Proofs.Ytjkhkmcmnnhmcaa.Pure
