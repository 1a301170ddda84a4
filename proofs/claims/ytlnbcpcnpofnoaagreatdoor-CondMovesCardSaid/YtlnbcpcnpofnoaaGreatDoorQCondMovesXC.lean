/- Functions that are told by hand: that they come to it. -/
import Derived.Test.YtlnbcpcnpofnoaaGreatDoorQCondMovesSH
import Derived.Test.YtlnbcpcnpofnoaaGreatDoorQCondMovesF
import Derived.Test.YtlnbcpcnpofnoaaGreatDoorQCondMovesZS2
namespace Go.Proofs.YtlnbcpcnpofnoaaGreatDoor.F
open Go Go.Proofs Go.Proofs.YtlnbcpcnpofnoaaGreatDoor.E
set_option linter.unusedVariables false
set_option linter.unusedSimpArgs false
theorem Grows.of_below {w w' : World} (h : Go.RowKit.Below w.heap.size w w') : Grows w w' := ⟨h.size, h.os, h.tape, h.output, fun g hg => h.block g hg⟩
theorem nat_of (c : Int) (h : 0 ≤ c) : ∃ k : Nat, c = (k : Int) := ⟨c.toNat, by omega⟩
theorem vr_str {w : World} {own : Nat → Prop} (s : ByteArray) : VR w own .str s (.string s) := ⟨by simp [R, Value.cells], by simp [Value.oneCell']⟩
theorem vr_bool {w : World} {own : Nat → Prop} (b : Bool) : VR w own .bool b (.bool b) := ⟨by simp [R, Value.cells], by simp [Value.oneCell']⟩
theorem vr_int {w : World} {own : Nat → Prop} {k : IntKind} (n : Int) : VR w own (.int k) n (.int k n) := ⟨by simp [R, Value.cells], by simp [Value.oneCell']⟩
theorem vr_nil {w : World} {own : Nat → Prop} : VR w own .any () .nilIface := ⟨⟨_, rfl, by simp [Value.oneCell']⟩, by simp [Value.oneCell']⟩
theorem toN_mk (l : List UInt8) : S (l.map UInt8.toNat) = ⟨l.toArray⟩ := S_toN ⟨l.toArray⟩
theorem map_dropWhile (l : List UInt8) (c : UInt8) (n : Nat) (h : c.toNat = n) : (l.map UInt8.toNat).dropWhile (· == n) = (l.dropWhile (· == c)).map UInt8.toNat := by
  subst h
  induction l with
  | nil => rfl
  | cons x l ih =>
    rw [List.map_cons, List.dropWhile_cons, List.dropWhile_cons, ih]
    have : (x.toNat == c.toNat) = (x == c) := by rw [Bool.eq_iff_iff]; simp [UInt8.toNat_inj]
    rw [this]
    cases (x == c) <;> rfl
/-! ### strings.TrimLeft -/
-- import Derived.Test.YtlnbcpcnpofnoaaGreatDoorSH
theorem strings_TrimLeft.ok : Ctr Tryz.prog globs 22 strings_TrimLeft.ent := by
  refine ⟨⟨_, Tryz.func22, rfl, rfl⟩, fun X x r w vs hL hg hX ha hF => ?_⟩
  obtain ⟨v1, _, rfl, h1, v2, rfl, h2⟩ := ha
  obtain ⟨s, c⟩ := x
  obtain rfl := VR_str h1
  obtain rfl := VR_str h2
  have hF : strings_TrimLeft.f s c r := hF
  unfold strings_TrimLeft.f at hF
  by_cases hc : c = (⟨#[48]⟩ : ByteArray)
  · rw [if_pos hc] at hF
    obtain rfl : r = _ := hF
    subst hc
    refine (Tryz.strings_TrimLeft_one s 48 (by decide) w).mono fun e w' ⟨he, hw⟩ => ⟨_, he, by subst hw; exact Grows.refl _, ?_⟩
    have e1 : (toN s).dropWhile (· == 48) = (Lib.trimLeftB s.data.toList 48).map UInt8.toNat := map_dropWhile _ 48 48 rfl
    rw [e1, toN_mk]
    exact vr_str _
  · rw [if_neg hc] at hF; exact hF.elim
/-! ### strings.TrimRight -/
-- import Derived.Test.YtlnbcpcnpofnoaaGreatDoorSH
theorem strings_TrimRight.ok : Ctr Tryz.prog globs 38 strings_TrimRight.ent := by
  refine ⟨⟨_, Tryz.func38, rfl, rfl⟩, fun X x r w vs hL hg hX ha hF => ?_⟩
  obtain ⟨v1, _, rfl, h1, v2, rfl, h2⟩ := ha
  obtain ⟨s, c⟩ := x
  obtain rfl := VR_str h1
  obtain rfl := VR_str h2
  have hF : strings_TrimRight.f s c r := hF
  unfold strings_TrimRight.f at hF
  by_cases hc : c = (⟨#[48]⟩ : ByteArray) ∧ s.size ≤ 9223372036854775807
  · rw [if_pos hc] at hF
    obtain rfl : r = _ := hF
    obtain ⟨rfl, hs⟩ := hc
    refine (Tryz.strings_TrimRight_one s 48 (by decide) w hs).mono fun e w' ⟨he, hw⟩ => ⟨_, he, by subst hw; exact Grows.refl _, ?_⟩
    have e1 : ((toN s).reverse.dropWhile (· == 48)).reverse = (Lib.trimRightB s.data.toList 48).map UInt8.toNat := by
      unfold toN Lib.trimRightB
      rw [← List.map_reverse, map_dropWhile _ 48 48 rfl, List.map_reverse]
    rw [e1, toN_mk]
    exact vr_str _
  · rw [if_neg hc] at hF; exact hF.elim
/-! ### strconv.ParseUint -/
-- import Derived.Test.YtlnbcpcnpofnoaaGreatDoorSH
theorem parseUintM_val (l : List UInt8) (hd : ∀ c ∈ l, 48 ≤ c.toNat ∧ c.toNat ≤ 57) : ∀ acc : Nat, acc * 10 ^ l.length + val 10 ((l.map UInt8.toNat).reverse.map (· - 48)) < 10 ^ 18 → Lib.parseUintM (2 ^ 64 - 1) acc l = .ok (acc * 10 ^ l.length + val 10 ((l.map UInt8.toNat).reverse.map (· - 48))) := by
  induction l with
  | nil => intro acc _; simp [Lib.parseUintM, val]
  | cons c l ih =>
    intro acc h
    have h1 := hd c List.mem_cons_self
    have e : acc * 10 ^ (c :: l).length + val 10 (((c :: l).map UInt8.toNat).reverse.map (· - 48)) = (acc * 10 + (c.toNat - 48)) * 10 ^ l.length + val 10 ((l.map UInt8.toNat).reverse.map (· - 48)) := by
      rw [List.map_cons, List.reverse_cons, List.map_append, val_append, List.length_cons, Nat.pow_succ]
      simp [val]
      grind
    rw [e] at h ⊢
    have hp : 0 < 10 ^ l.length := Nat.pow_pos (by decide)
    have hle : acc * 10 + (c.toNat - 48) ≤ (acc * 10 + (c.toNat - 48)) * 10 ^ l.length := Nat.le_mul_of_pos_right _ hp
    rw [Lib.parseUintM, if_pos h1, if_neg (by omega), if_neg (by omega)]
    exact ih (fun x hx => hd x (List.mem_cons_of_mem _ hx)) _ h
theorem strconv_ParseUint.ok : Ctr Tryz.prog globs 55 strconv_ParseUint.ent := by
  refine ⟨⟨_, Tryz.func55, rfl, rfl⟩, fun X x r w vs hL hg hX ha hF => ?_⟩
  obtain ⟨v1, _, rfl, h1, v2, _, rfl, h2, v3, rfl, h3⟩ := ha
  obtain ⟨s, b, k⟩ := x
  obtain rfl := VR_str h1
  obtain rfl := VR_int h2
  obtain rfl := VR_int h3
  have hF : strconv_ParseUint.f s b k r := hF
  unfold strconv_ParseUint.f at hF
  by_cases hc : b = 10 ∧ k = 64 ∧ (toN s).all (fun c => decide (48 ≤ c) && decide (c ≤ 57)) = true ∧ (toN s).length ≤ 18 ∧ toN s ≠ []
  · rw [if_pos hc] at hF
    obtain rfl : r = _ := hF
    obtain ⟨rfl, rfl, hd, hl, hn⟩ := hc
    have hlen : s.data.toList.length ≤ 18 := by unfold toN at hl; simpa using hl
    have hd2 : ∀ c ∈ s.data.toList, 48 ≤ c.toNat ∧ c.toNat ≤ 57 := by
      intro c hc
      have := List.all_eq_true.mp hd c.toNat (List.mem_map.mpr ⟨c, hc, rfl⟩)
      simpa using this
    have hlt : val 10 ((toN s).reverse.map (· - 48)) < 10 ^ 18 := by
      have h1 := val_lt (B := 10) (l := (toN s).reverse.map (· - 48)) (by decide) (fun x hx => by
        obtain ⟨y, hy, rfl⟩ := List.mem_map.mp hx
        rw [List.mem_reverse] at hy
        obtain ⟨c, hc, rfl⟩ := List.mem_map.mp hy
        have := hd2 c hc
        omega)
      rw [List.length_map, List.length_reverse] at h1
      exact Nat.lt_of_lt_of_le h1 (Nat.pow_le_pow_right (by decide) hl)
    have hok : Lib.parseUintB 64 s.data.toList = .ok (val 10 ((toN s).reverse.map (· - 48))) := by
      have := parseUintM_val s.data.toList hd2 0 (by rw [Nat.zero_mul, Nat.zero_add]; exact hlt)
      rw [Nat.zero_mul, Nat.zero_add] at this
      unfold Lib.parseUintB
      rw [if_neg (fun h => hn (by unfold toN; rw [h]; rfl))]
      exact this
    have hsz : s.size ≤ 9223372036854775806 := by
      have : s.size = s.data.toList.length := by simp
      omega
    refine (Tryz.strconv_ParseUint_10_at64_ok s hsz _ hok w).mono fun e w' ⟨he, hw⟩ => ⟨_, he, ?_, ?_⟩
    · rcases hw with rfl | rfl
      · exact Grows.refl _
      · exact Grows.of_below (Lib.bytesWorld_below w 5 s)
    · exact ⟨[_, _], rfl, _, _, rfl, vr_int _, _, rfl, vr_nil⟩
  · rw [if_neg hc] at hF; exact hF.elim
/-! ### internal/stringslite.Index -/
theorem idx_map (l : List UInt8) (b : UInt8) : idxN (l.map UInt8.toNat) b.toNat = Lib.indexByte l b := by
  induction l with
  | nil => rfl
  | cons x l ih =>
    rw [List.map_cons, idxN, Lib.indexByte, ih]
    have : (x == b) = decide (x.toNat = b.toNat) := by rw [Bool.eq_iff_iff]; simp [UInt8.toNat_inj]
    rw [this]
    by_cases h : x.toNat = b.toNat
    · simp [h]
    · simp only [h, if_false, decide_false]
      by_cases h2 : Lib.indexByte l b = -1
      · simp [h2]
      · simp [h2]
-- import Derived.Test.YtlnbcpcnpofnoaaGreatDoorSH
theorem internal_stringslite_Index.ok : Ctr Tryz.prog globs 53 internal_stringslite_Index.ent := by
  refine ⟨⟨_, Tryz.func53, rfl, rfl⟩, fun X x r w vs hL hg hX ha hF => ?_⟩
  obtain ⟨v1, _, rfl, h1, v2, rfl, h2⟩ := ha
  obtain ⟨s, c⟩ := x
  obtain rfl := VR_str h1
  obtain rfl := VR_str h2
  have hF : internal_stringslite_Index.f s c r := hF
  unfold internal_stringslite_Index.f at hF
  by_cases hc : c.size = 1
  · rw [if_pos hc] at hF
    obtain rfl : r = _ := hF
    obtain ⟨b, rfl⟩ : ∃ b, c = ⟨#[b]⟩ := by
      obtain ⟨⟨l⟩⟩ := c
      match l, hc with
      | [b], _ => exact ⟨b, rfl⟩
    refine (Tryz.stringslite_Index_one s b w).mono fun e w' ⟨he, hw⟩ => ⟨_, he, by subst hw; exact Grows.refl _, ?_⟩
    have e1 : idxN (toN s) ((toN ⟨#[b]⟩).getD 0 0) = Lib.indexByte s.data.toList b := idx_map s.data.toList b
    rw [e1]
    exact vr_int _
  · rw [if_neg hc] at hF; exact hF.elim

/-! ### internal/stringslite.Clone -/
-- import Derived.Test.YtlnbcpcnpofnoaaGreatDoorSH
theorem internal_stringslite_Clone.ok : Ctr Tryz.prog globs 106 internal_stringslite_Clone.ent := by
  refine ⟨⟨_, Tryz.func106, rfl, rfl⟩, fun X x r w vs hL hg hX ha hF => ?_⟩
  obtain ⟨v1, rfl, h1⟩ := ha
  obtain rfl := VR_str h1
  have hF : internal_stringslite_Clone.f x r := hF
  unfold internal_stringslite_Clone.f at hF
  by_cases hc : x.size ≤ 281474976710656
  · rw [if_pos hc] at hF
    obtain rfl : r = x := hF
    exact (Tryz.stringslite_Clone r w hc).mono fun e w' ⟨he, hw⟩ => ⟨_, he, Grows.of_below hw, vr_str _⟩
  · rw [if_neg hc] at hF; exact hF.elim
end Go.Proofs.YtlnbcpcnpofnoaaGreatDoor.F
