/- Texts as lists of numbers; decimals. -/
import Derived.Test.YtlnbcpcnpofnoaaGreatDoorQCondMovesZP1
namespace Go.Proofs.YtlnbcpcnpofnoaaGreatDoor.F
open Go Go.Proofs.YtlnbcpcnpofnoaaGreatDoor.E
set_option linter.unusedVariables false
set_option linter.unusedSimpArgs false
/-! ### texts -/
theorem S_nil : S [] = (⟨#[]⟩ : ByteArray) := rfl
theorem S_empty : ByteArray.empty = S [] := rfl
theorem S_size (l : List Nat) : (S l).size = l.length := by unfold S; show (l.map UInt8.ofNat).toArray.size = _; simp
theorem S_app (a b : List Nat) : S a ++ S b = S (a ++ b) := by
  apply ByteArray.ext
  rw [ByteArray.data_append]
  unfold S
  simp
theorem S_ext (l : List Nat) (i j : Nat) : (S l).extract i j = S ((l.take j).drop i) := by
  apply ByteArray.ext
  rw [ByteArray.data_extract]
  unfold S
  simp [List.extract_eq_take_drop, List.map_drop, List.map_take, List.take_drop]
  rw [List.drop_take, List.drop_take, show i + (j - i) - i = j - i by omega]
theorem S_ne {l : List Nat} (h : l ≠ []) : S l ≠ (⟨#[]⟩ : ByteArray) := fun e => h (by
  have : l.length = 0 := by rw [← S_size, e]; rfl
  exact List.length_eq_zero_iff.mp this)
theorem S_inj {a b : List Nat} (ha : Dg 256 a) (hb : Dg 256 b) : S a = S b ↔ a = b := ⟨fun h => by rw [← toN_S ha, ← toN_S hb, h], fun h => by rw [h]⟩
theorem S_of (s : ByteArray) : ∃ l, Dg 256 l ∧ s = S l := ⟨toN s, toN_dg s, (S_toN s).symm⟩
theorem byteAt_S {l : List Nat} (h : Dg 256 l) (i : Nat) : byteAt (S l) (i : Int) = ((gd l i : Nat) : Int) := by
  unfold byteAt S gd
  rw [Int.toNat_natCast]
  simp only [List.getD_eq_getElem?_getD, List.getElem?_map]
  cases hi : l[i]? with
  | none => rfl
  | some x =>
    have hx := h x (List.mem_of_getElem? hi)
    simp only [Option.map_some, Option.getD_some]
    rw [UInt8.toNat_ofNat', Nat.mod_eq_of_lt (by simpa using hx)]
theorem bytesOf_S {l : List Nat} (h : Dg 256 l) : bytesOf (S l) = nl l := by
  unfold bytesOf S nl
  simp only [List.map_map]
  refine List.map_congr_left fun x hx => ?_
  have := h x hx
  simp only [Function.comp, UInt8.toNat_ofNat']
  rw [Nat.mod_eq_of_lt (by simpa using this)]
  rfl
theorem strOf_nl (l : List Nat) : strOf (nl l) = S l := by
  unfold strOf S nl
  simp only [List.map_map]
  congr 2
/-! ### decimals -/
def isD (l : List Nat) : Prop := ∀ c ∈ l, 48 ≤ c ∧ c ≤ 57
def num (l : List Nat) : Nat := val 10 (l.reverse.map (· - 48))
theorem isD.dg {l : List Nat} (h : isD l) : Dg 256 l := fun x hx => by have := h x hx; omega
theorem isD.nil : isD [] := fun c h => nomatch h
theorem isD.cons {x : Nat} {l : List Nat} (h1 : 48 ≤ x ∧ x ≤ 57) (h : isD l) : isD (x :: l) := fun c hc => by
  rcases List.mem_cons.mp hc with rfl | hc
  · exact h1
  · exact h c hc
theorem isD.app {a b : List Nat} (ha : isD a) (hb : isD b) : isD (a ++ b) := fun c hc => (List.mem_append.mp hc).elim (ha c) (hb c)
theorem isD.take {l : List Nat} (h : isD l) (n : Nat) : isD (l.take n) := fun c hc => h c (List.mem_of_mem_take hc)
theorem isD.drop {l : List Nat} (h : isD l) (n : Nat) : isD (l.drop n) := fun c hc => h c (List.mem_of_mem_drop hc)
theorem isD.rep (n : Nat) : isD (List.replicate n 48) := fun c hc => by rw [List.eq_of_mem_replicate hc]; omega
theorem decs0_zero : decs0 0 = [] := rfl
theorem decs0_len (n : Nat) : (decs0 n).length = dn n := by unfold decs0 dn; simp
theorem decs0_isD (n : Nat) : isD (decs0 n) := fun c hc => by
  unfold decs0 at hc
  obtain ⟨x, hx, rfl⟩ := List.mem_map.mp hc
  have := Dg_dg (B := 10) (by decide) n x (List.mem_reverse.mp hx)
  omega
theorem decs_isD (n : Nat) : isD (decs n) := by
  unfold decs; split
  · exact isD.cons (by decide) isD.nil
  · exact decs0_isD n
theorem num_app (a b : List Nat) : num (a ++ b) = num a * 10 ^ b.length + num b := by
  unfold num
  rw [List.reverse_append, List.map_append, val_append, List.length_map, List.length_reverse]
  rw [Nat.mul_comm, Nat.add_comm]
theorem num_nil : num [] = 0 := rfl
theorem num_one (c : Nat) : num [c] = c - 48 := by simp [num, val]
theorem num_snoc (l : List Nat) (c : Nat) : num (l ++ [c]) = num l * 10 + (c - 48) := by rw [num_app, num_one]; rfl
theorem num_cons (c : Nat) (l : List Nat) : num (c :: l) = (c - 48) * 10 ^ l.length + num l := by
  have := num_app [c] l
  rwa [num_one] at this
theorem num_rep (n : Nat) : num (List.replicate n 48) = 0 := by
  induction n with
  | zero => rfl
  | succ n ih => rw [List.replicate_succ, num_cons, ih]; simp
theorem num_decs0 (n : Nat) : num (decs0 n) = n := by
  unfold num decs0
  rw [← List.map_reverse, List.reverse_reverse, List.map_map]
  have : (dg 10 n).map ((· - 48) ∘ (48 + ·)) = dg 10 n := by
    refine (List.map_congr_left fun x _ => ?_).trans (List.map_id _)
    simp
  rw [this, val_dg (by decide)]
theorem num_decs (n : Nat) : num (decs n) = n := by
  unfold decs; split
  · rename_i h; subst h; rfl
  · exact num_decs0 n
theorem num_lt {l : List Nat} (h : isD l) : num l < 10 ^ l.length := by
  have := val_lt (B := 10) (l := l.reverse.map (· - 48)) (by decide) (fun x hx => by
    obtain ⟨y, hy, rfl⟩ := List.mem_map.mp hx
    have := h y (List.mem_reverse.mp hy)
    omega)
  rw [List.length_map, List.length_reverse] at this
  exact this
/-- Decimals, with noughts ahead, of a number of at most so many. -/
def pad (k : Nat) (l : List Nat) : List Nat := List.replicate (k - l.length) 48 ++ l
theorem dg_split {q r k : Nat} (hq : 0 < q) (hr : r < 10 ^ k) : dg 10 (q * 10 ^ k + r) = dg 10 r ++ List.replicate (k - dn r) 0 ++ dg 10 q := by
  have hd : dn r ≤ k := (dg_len b10 r k).mpr hr
  have hv : val 10 (dg 10 r ++ List.replicate (k - dn r) 0 ++ dg 10 q) = q * 10 ^ k + r := by
    rw [val_append, val_append, val_replicate, val_dg b10, val_dg b10, List.length_append, List.length_replicate, show (dg 10 r).length + (k - dn r) = k by unfold dn at *; omega]
    rw [Nat.mul_zero, Nat.add_zero, Nat.mul_comm, Nat.add_comm]
  have hD : Dg 10 (dg 10 r ++ List.replicate (k - dn r) 0 ++ dg 10 q) := ((Dg_dg b10 r).append (Dg.replicate (by decide) _)).append (Dg_dg b10 q)
  have := dg_val b10 hD
  rw [hv] at this
  rw [this]
  have hlast := dg_last b10 hq
  have hl : 0 < (dg 10 q).length := by rw [dg_pos b10 hq]; simp
  generalize dg 10 r ++ List.replicate (k - dn r) 0 = u at *
  have hlen : (u ++ dg 10 q).length = u.length + ((dg 10 q).length - 1) + 1 := by rw [List.length_append]; omega
  have h2 := trim_take (l := u ++ dg 10 q) (n := (u ++ dg 10 q).length) (Nat.le_refl _) (.inr (by
    rw [hlen, Nat.add_sub_cancel, gd_append_right]
    omega)) (fun i hi => gd_ge hi)
  rw [h2, List.take_length]
theorem decs0_split {q r k : Nat} (hq : 0 < q) (hr : r < 10 ^ k) : decs0 (q * 10 ^ k + r) = decs0 q ++ (List.replicate (k - dn r) 48 ++ decs0 r) := by
  unfold decs0
  rw [dg_split hq hr]
  simp
theorem pad_decs {r k : Nat} (hk : 0 < k) : pad k (decs r) = List.replicate (k - dn r) 48 ++ decs0 r := by
  unfold pad decs
  split
  · rename_i h; subst h
    rw [decs0_zero, List.append_nil, show dn 0 = 0 from rfl]
    show List.replicate (k - 1) 48 ++ List.replicate 1 48 = _
    rw [List.replicate_append_replicate]
    congr 1
    omega
  · rw [decs0_len]
theorem dn_div {n k : Nat} (h : 10 ^ k ≤ n) : dn (n / 10 ^ k) + k = dn n := by
  have e : n = n / 10 ^ k * 10 ^ k + n % 10 ^ k := by rw [Nat.mul_comm]; exact (Nat.div_add_mod n (10 ^ k)).symm
  have hp : 0 < 10 ^ k := Nat.pow_pos (by decide)
  have hq : 0 < n / 10 ^ k := Nat.div_pos h hp
  have hs := dg_split hq (Nat.mod_lt n hp)
  rw [← e] at hs
  have hd : dn (n % 10 ^ k) ≤ k := (dg_len b10 _ k).mpr (Nat.mod_lt n hp)
  have h2 : dn n = (dg 10 n).length := rfl
  rw [h2, hs, List.length_append, List.length_append, List.length_replicate]
  unfold dn at *
  omega
theorem decs0_head {n : Nat} (h : 0 < n) : ∃ c l, decs0 n = c :: l ∧ 49 ≤ c ∧ c ≤ 57 := by
  have hl := dg_last b10 h
  have hlen : 0 < (dg 10 n).length := by rw [dg_pos b10 h]; simp
  have hd := (Dg_dg b10 n).gd (by decide) ((dg 10 n).length - 1)
  refine ⟨48 + gd (dg 10 n) ((dg 10 n).length - 1), (decs0 n).drop 1, ?_, by omega, by omega⟩
  have h0 : 0 < (decs0 n).length := by rw [decs0_len]; exact dn_pos h
  have e := List.drop_eq_getElem_cons (l := decs0 n) (i := 0) h0
  rw [List.drop_zero] at e
  refine e.trans ?_
  congr 1
  simp only [decs0, List.getElem_map, List.getElem_reverse, gd, List.getD_eq_getElem?_getD]
  rw [List.getElem?_eq_getElem (by omega)]
  rfl
theorem decs_of_pos {n : Nat} (h : 0 < n) : decs n = decs0 n := by unfold decs; rw [if_neg (by omega)]
theorem decs_len_pos (n : Nat) : 0 < (decs n).length := by
  unfold decs; split
  · decide
  · rw [decs0_len]; exact dn_pos (by omega)
theorem decs_len (n : Nat) : (decs n).length = max 1 (dn n) := by
  unfold decs; split
  · rename_i h; subst h; rfl
  · rw [decs0_len]; have := dn_pos (b := n) (by omega); omega
/-- Decimals without noughts ahead are those of their number. -/
theorem decs0_num {l : List Nat} (h : isD l) (h0 : l = [] ∨ ∃ c t, l = c :: t ∧ c ≠ 48) : decs0 (num l) = l := by
  rcases h0 with rfl | ⟨c, t, rfl, hc⟩
  · rfl
  · have hct := h c List.mem_cons_self
    have ht : isD t := fun x hx => h x (List.mem_cons_of_mem _ hx)
    have key : ∀ (t : List Nat), isD t → ∀ q, 0 < q → decs0 (q * 10 ^ t.length + num t) = decs0 q ++ t := by
      intro t ht q hq
      rw [decs0_split hq (num_lt ht)]
      congr 1
      clear hq
      induction t with
      | nil => rfl
      | cons x t ih =>
        have hx := ht x List.mem_cons_self
        have ht2 : isD t := fun y hy => ht y (List.mem_cons_of_mem _ hy)
        have ih := ih ht2
        have hlt := num_lt ht2
        rw [num_cons]
        have hdl : dn (num t) ≤ t.length := (dg_len b10 _ _).mpr hlt
        by_cases hx0 : x = 48
        · subst hx0
          rw [Nat.sub_self, Nat.zero_mul, Nat.zero_add, List.length_cons, show t.length + 1 - dn (num t) = (t.length - dn (num t)) + 1 by omega, List.replicate_succ, List.cons_append, ih]
        · have hq : 0 < x - 48 := by omega
          have hd := dg_split hq hlt
          have hdn : dn ((x - 48) * 10 ^ t.length + num t) = t.length + 1 := by
            have h2 : dn ((x - 48) * 10 ^ t.length + num t) = (dg 10 ((x - 48) * 10 ^ t.length + num t)).length := rfl
            have h3 : (dg 10 (x - 48)).length = 1 := by
              rw [dg_pos b10 hq, show (x - 48) / 10 = 0 by omega]; rfl
            rw [h2, hd, List.length_append, List.length_append, List.length_replicate, h3]
            unfold dn at *
            omega
          rw [hdn, List.length_cons, Nat.sub_self, List.replicate_zero, List.nil_append, decs0_split hq hlt, ih]
          have : decs0 (x - 48) = [x] := by
            unfold decs0
            rw [dg_pos b10 hq, show (x - 48) / 10 = 0 by omega, dg_zero]
            simp; omega
          rw [this]; rfl
    have hq : 0 < c - 48 := by omega
    have h1 : decs0 (c - 48) = [c] := by
      unfold decs0
      rw [dg_pos b10 hq, show (c - 48) / 10 = 0 by omega, dg_zero]
      simp; omega
    rw [num_cons, key t ht _ hq, h1]; rfl
/-! ### the library's -/
theorem trimLeft_S {l : List Nat} (h : Dg 256 l) : Ev (strings_TrimLeft.f (S l) (⟨#[48]⟩ : ByteArray)) (S (l.dropWhile (· == 48))) := by
  unfold strings_TrimLeft.f
  rw [toN_S h]
  exact ev_pos rfl (ev_now rfl)
theorem trimRight_S {l : List Nat} (h : Dg 256 l) (hs : l.length ≤ 9223372036854775807) : Ev (strings_TrimRight.f (S l) (⟨#[48]⟩ : ByteArray)) (S (l.reverse.dropWhile (· == 48)).reverse) := by
  unfold strings_TrimRight.f
  rw [toN_S h]
  exact ev_pos ⟨rfl, by rw [S_size]; exact hs⟩ (ev_now rfl)
theorem parseUint_S {l : List Nat} (h : isD l) (h1 : l.length ≤ 18) (h2 : l ≠ []) : Ev (strconv_ParseUint.f (S l) 10 64) (((num l : Nat) : Int), ()) := by
  unfold strconv_ParseUint.f
  rw [toN_S h.dg]
  exact ev_pos ⟨rfl, rfl, List.all_eq_true.mpr (fun x hx => by have := h x hx; simp; omega), h1, h2⟩ (ev_now rfl)
/-! ### digits -/
/-- Without noughts at the end. -/
def trimR (l : List Nat) : List Nat := (l.reverse.dropWhile (· == 48)).reverse
def trimL (l : List Nat) : List Nat := l.dropWhile (· == 48)
theorem trim_S {l : List Nat} (h : Dg 256 l) (hs : l.length ≤ 9223372036854775807) : Ev (digits_Trim.f (S l)) (S (trimR l)) := ev_eq digits_Trim.f_eq (Ev.bind (trimRight_S h hs) (ev_now rfl))
theorem digit_ok (c : Nat) : Ev (digits_digit.f (c : Int)) (decide (48 ≤ c ∧ c ≤ 57)) := by
  refine ev_eq digits_digit.f_eq ?_
  by_cases h : 48 ≤ c
  · exact ev_pos (by omega) (ev_now (decide_eq_decide.mpr (by omega)))
  · exact ev_neg (by omega) (ev_now (decide_eq_false (by omega)).symm)
theorem parse_chunks : ∀ (l : List Nat) (m : Nat) (x2 : List Int), isD l → ln m + l.length ≤ 1000000 → Ev (digits_Parse.l1 (S l) x2 (L m)) (L (m * 10 ^ l.length + num l), true) := by
  intro l
  induction hk : l.length using Nat.strongRecOn generalizing l with
  | _ k ih =>
    intro m x2 hD hb
    subst hk
    cases l with
    | nil => exact ev_loop digits_Parse.l1_eq digits_Parse.l1_step (ev_neg (by rw [S_nil]; simp) (ev_now (by simp [num_nil])))
    | cons c t =>
      generalize hl : c :: t = l at *
      have hlen : 0 < l.length := by rw [← hl]; simp
      have hmn : mnI ((l.length : Nat) : Int) 9 = ((min l.length 9 : Nat) : Int) := mnI_min l.length 9
      refine ev_loop digits_Parse.l1_eq digits_Parse.l1_step ?_
      rw [S_size, hmn, Int.toNat_natCast, S_ext, S_ext, List.drop_zero, List.take_length]
      have hn1 : S l ≠ (⟨#[]⟩ : ByteArray) := S_ne (fun h => by rw [h] at hlen; simp at hlen)
      have e9 : (10 : Nat) ^ 9 = 1000000000 := by decide
      have hk9 : min l.length 9 ≤ 9 := Nat.min_le_right _ _
      have htk : (l.take (min l.length 9)).length = min l.length 9 := by rw [List.length_take]; omega
      have hdt := hD.take (min l.length 9)
      have hnl := num_lt hdt
      rw [htk] at hnl
      have hp9 : 10 ^ min l.length 9 ≤ 10 ^ 9 := Nat.pow_le_pow_right (by decide) hk9
      have hsm : num (l.take (min l.length 9)) < 18446744073709551616 := by omega
      have l1 := ln_small hsm
      have l2 : ln (10 ^ min l.length 9) ≤ 2 := ln_small (by omega)
      have l3 := ln_mul m (10 ^ min l.length 9)
      have l4 := ln_add (m * 10 ^ min l.length 9) (num (l.take (min l.length 9)))
      have e : l = l.take (min l.length 9) ++ l.drop (min l.length 9) := (List.take_append_drop _ _).symm
      have hdl : (l.drop (min l.length 9)).length = l.length - min l.length 9 := List.length_drop
      have h10 : m * 10 ^ min l.length 9 + num (l.take (min l.length 9)) = m * 10 ^ min l.length 9 + num (l.take (min l.length 9)) := rfl
      have lb : ln (m * 10 ^ min l.length 9 + num (l.take (min l.length 9))) ≤ ln m + 1 := by
        have h1 : m < 4294967296 ^ ln m := dg_lt b32 m
        have h2 : m * 10 ^ min l.length 9 + num (l.take (min l.length 9)) < 4294967296 ^ (ln m + 1) := by
          have h3 : (m + 1) * 10 ^ min l.length 9 ≤ 4294967296 ^ ln m * 10 ^ min l.length 9 := Nat.mul_le_mul_right _ h1
          have h4 : 4294967296 ^ ln m * 10 ^ min l.length 9 ≤ 4294967296 ^ ln m * 4294967296 := Nat.mul_le_mul_left _ (by omega)
          rw [Nat.pow_succ]
          rw [Nat.add_mul, Nat.one_mul] at h3
          omega
        exact (dg_len b32 _ _).mpr h2
      have hih := ih (l.drop (min l.length 9)).length (by omega) (l.drop (min l.length 9)) rfl (m * 10 ^ min l.length 9 + num (l.take (min l.length 9))) x2 (hD.drop _) (by omega)
      refine ev_pos hn1 (ev_pos (by omega) (ev_pos (by omega) (Ev.bind (parseUint_S hdt (by omega) (fun h => by rw [h] at htk; simp at htk; omega)) (Ev.bind (ten (by omega)) (Ev.bind (nmul (by omega) (by omega)) (Ev.bind (of_val hsm) (Ev.bind (nadd (by omega) (by omega)) (ev_pos (by omega) (ev_pos (by omega) ?_)))))))))
      have fin : (m * 10 ^ min l.length 9 + num (l.take (min l.length 9))) * 10 ^ (l.drop (min l.length 9)).length + num (l.drop (min l.length 9)) = m * 10 ^ l.length + num l := by
        have e1 : num l = num (l.take (min l.length 9)) * 10 ^ (l.drop (min l.length 9)).length + num (l.drop (min l.length 9)) := by
          rw [← num_app, List.take_append_drop]
        have e2 : 10 ^ l.length = 10 ^ min l.length 9 * 10 ^ (l.drop (min l.length 9)).length := by rw [← Nat.pow_add, hdl]; congr 1; omega
        rw [e1, e2, Nat.add_mul, Nat.mul_assoc]; omega
      rw [fin] at hih
      exact hih
theorem parse_ok {l : List Nat} (h : isD l) (h0 : l ≠ []) (hb : l.length ≤ 900000) : Ev (digits_Parse.f (S l)) (L (num l), true) := by
  refine ev_eq digits_Parse.f_eq (ev_neg (S_ne h0) ?_)
  rw [bytesOf_S h.dg, nl_length]
  have loop : ∀ k i, i + k = l.length → Ev (digits_Parse.l0 (S l) ([] : List Int) (nl l) (l.length : Int) (i : Int)) (L (num l), true) := by
    intro k
    induction k with
    | zero =>
      intro i hi
      refine ev_loop digits_Parse.l0_eq digits_Parse.l0_step (ev_neg (by omega) ?_)
      have := parse_chunks l 0 [] h (by rw [show ln 0 = 0 from rfl]; omega)
      rw [Nat.zero_mul, Nat.zero_add] at this
      exact this
    | succ k ih =>
      intro i hi
      have hc : 48 ≤ gd l i ∧ gd l i ≤ 57 := h _ (by
        unfold gd; rw [List.getD_eq_getElem?_getD, List.getElem?_eq_getElem (by omega)]
        exact List.getElem_mem _)
      refine ev_loop digits_Parse.l0_eq digits_Parse.l0_step (ev_pos (by omega) (ev_pos (by omega) (ev_pos (by rw [nl_length]; omega) ?_)))
      rw [rd_nl]
      refine Ev.bind (digit_ok _) (ev_neg (by simp [hc]) ?_)
      rw [show IntKind.i64.wrap ((i : Int) + 1) = ((i + 1 : Nat) : Int) by rw [wrap_id (by omega) (by omega)]; omega]
      exact ih (i + 1) (by omega)
  exact loop l.length 0 (by omega)
theorem parse_bad {l : List Nat} (hd : Dg 256 l) (h : ¬ isD l) (hb : l.length ≤ 900000) : Ev (digits_Parse.f (S l)) ([], false) := by
  have h0 : l ≠ [] := fun e => h (by subst e; exact isD.nil)
  obtain ⟨i, hi, hbad, hpre⟩ : ∃ i, i < l.length ∧ ¬(48 ≤ gd l i ∧ gd l i ≤ 57) ∧ ∀ j, j < i → 48 ≤ gd l j ∧ gd l j ≤ 57 := by
    clear hd hb h0
    induction l with
    | nil => exact absurd isD.nil h
    | cons c t ih =>
      by_cases hc : 48 ≤ c ∧ c ≤ 57
      · obtain ⟨i, h1, h2, h3⟩ := ih (fun ht => h (isD.cons hc ht))
        refine ⟨i + 1, by simp; omega, h2, fun j hj => ?_⟩
        cases j with
        | zero => exact hc
        | succ j => exact h3 j (by omega)
      · exact ⟨0, by simp, hc, fun j hj => by omega⟩
  refine ev_eq digits_Parse.f_eq (ev_neg (S_ne h0) ?_)
  rw [bytesOf_S hd, nl_length]
  have loop : ∀ k j, j + k = i → Ev (digits_Parse.l0 (S l) ([] : List Int) (nl l) (l.length : Int) (j : Int)) ([], false) := by
    intro k
    induction k with
    | zero =>
      intro j hj
      obtain rfl : j = i := by omega
      refine ev_loop digits_Parse.l0_eq digits_Parse.l0_step (ev_pos (by omega) (ev_pos (by omega) (ev_pos (by rw [nl_length]; omega) ?_)))
      rw [rd_nl]
      exact Ev.bind (digit_ok _) (ev_pos (by simp; omega) (ev_now rfl))
    | succ k ih =>
      intro j hj
      have hc := hpre j (by omega)
      refine ev_loop digits_Parse.l0_eq digits_Parse.l0_step (ev_pos (by omega) (ev_pos (by omega) (ev_pos (by rw [nl_length]; omega) ?_)))
      rw [rd_nl]
      refine Ev.bind (digit_ok _) (ev_neg (by simp [hc]) ?_)
      rw [show IntKind.i64.wrap ((j : Int) + 1) = ((j + 1 : Nat) : Int) by rw [wrap_id (by omega) (by omega)]; omega]
      exact ih (j + 1) (by omega)
  exact loop i 0 (by omega)
theorem parse_none : Ev (digits_Parse.f (S [])) ([], false) := ev_eq digits_Parse.f_eq (ev_pos rfl (ev_now rfl))
end Go.Proofs.YtlnbcpcnpofnoaaGreatDoor.F

/- Layer 6: what the laws' own helpers come to. -/
namespace Go.Proofs.YtlnbcpcnpofnoaaGreatDoor.F
open Go Go.Proofs.YtlnbcpcnpofnoaaGreatDoor.E
set_option linter.unusedVariables false
set_option linter.unusedSimpArgs false
theorem decs0_lit {l : List Nat} {n : Nat} (h : isD l) (h0 : l = [] ∨ ∃ c t, l = c :: t ∧ c ≠ 48) (hn : num l = n) : decs0 n = l := by subst hn; exact decs0_num h h0
theorem decs_lit {l : List Nat} {n : Nat} (h : isD l) (h0 : ∃ c t, l = c :: t ∧ c ≠ 48) (hn : num l = n) (hp : n ≠ 0) : decs n = l := by
  rw [decs_of_pos (by omega)]; exact decs0_lit h (.inr h0) hn
theorem trimR_snoc (l : List Nat) (c : Nat) : trimR (l ++ [c]) = if c = 48 then trimR l else l ++ [c] := by
  unfold trimR
  rw [List.reverse_append]
  show (List.dropWhile _ (c :: l.reverse)).reverse = _
  rw [List.dropWhile_cons]
  by_cases h : c = 48
  · subst h; simp
  · simp [h]
theorem trimR_nil : trimR [] = [] := rfl
theorem trimR_rep (l : List Nat) (k : Nat) : trimR (l ++ List.replicate k 48) = trimR l := by
  induction k with
  | zero => simp
  | succ k ih => rw [List.replicate_succ', ← List.append_assoc, trimR_snoc, if_pos rfl, ih]
theorem snocRec {P : List Nat → Prop} (h0 : P []) (h1 : ∀ l c, P l → P (l ++ [c])) (l : List Nat) : P l := by
  have : ∀ m : List Nat, P m.reverse := by
    intro m
    induction m with
    | nil => exact h0
    | cons x m ih => rw [List.reverse_cons]; exact h1 _ _ ih
  have := this l.reverse
  rwa [List.reverse_reverse] at this
theorem trimR_spec (l : List Nat) : ∃ k, l = trimR l ++ List.replicate k 48 ∧ (trimR l = [] ∨ ∃ t c, trimR l = t ++ [c] ∧ c ≠ 48) := by
  refine snocRec (P := fun l => ∃ k, l = trimR l ++ List.replicate k 48 ∧ (trimR l = [] ∨ ∃ t c, trimR l = t ++ [c] ∧ c ≠ 48)) ?_ (fun l c ih => ?_) l
  · exact ⟨0, rfl, .inl rfl⟩
  · rw [trimR_snoc]
    by_cases h : c = 48
    · subst h
      obtain ⟨k, h1, h2⟩ := ih
      rw [if_pos rfl]
      refine ⟨k + 1, ?_, h2⟩
      rw [List.replicate_succ', ← List.append_assoc, ← h1]
    · rw [if_neg h]
      exact ⟨0, by simp, .inr ⟨l, c, rfl, h⟩⟩
theorem trimR_le (l : List Nat) : (trimR l).length ≤ l.length := by
  obtain ⟨k, h, _⟩ := trimR_spec l
  have := congrArg List.length h
  rw [List.length_append] at this
  omega
theorem trimR_dg {B : Nat} {l : List Nat} (h : Dg B l) : Dg B (trimR l) := fun x hx => by
  obtain ⟨k, h1, _⟩ := trimR_spec l
  exact h x (by rw [h1]; exact List.mem_append_left _ hx)
theorem trimR_take (l : List Nat) : l.take (trimR l).length = trimR l := by
  obtain ⟨k, h1, _⟩ := trimR_spec l
  calc l.take (trimR l).length = (trimR l ++ List.replicate k 48).take (trimR l).length := by rw [← h1]
    _ = trimR l := List.take_left
theorem trimR_idem (l : List Nat) : trimR (trimR l) = trimR l := by
  obtain ⟨k, h1, h2⟩ := trimR_spec l
  rcases h2 with h2 | ⟨t, c, h2, hc⟩
  · rw [h2]; rfl
  · rw [h2, trimR_snoc, if_neg hc]
end Go.Proofs.YtlnbcpcnpofnoaaGreatDoor.F

/- Conditions: texts that are cut, and the ways that they begin with. -/
namespace Go.Proofs.YtlnbcpcnpofnoaaGreatDoor.F
open Go Go.Proofs.YtlnbcpcnpofnoaaGreatDoor.E
set_option linter.unusedVariables false
set_option linter.unusedSimpArgs false
theorem idxN_no {l : List Nat} {c : Nat} (h : c ∉ l) : idxN l c = -1 := by
  induction l with
  | nil => rfl
  | cons b l ih =>
    have h1 : c ∉ l := fun h' => h (List.mem_cons_of_mem _ h')
    have h2 : b ≠ c := fun h' => h (h' ▸ List.mem_cons_self ..)
    rw [idxN, if_neg h2, ih h1, if_pos rfl]
theorem idxN_at {a b : List Nat} {c : Nat} (h : c ∉ a) : idxN (a ++ c :: b) c = (a.length : Int) := by
  induction a with
  | nil => rw [List.nil_append, idxN, if_pos rfl]; rfl
  | cons x a ih =>
    have h1 : c ∉ a := fun h' => h (List.mem_cons_of_mem _ h')
    have h2 : x ≠ c := fun h' => h (h' ▸ List.mem_cons_self ..)
    rw [List.cons_append, idxN, if_neg h2, ih h1, if_neg (by omega), List.length_cons]
    omega
theorem index_S {l : List Nat} {c : Nat} (hd : Dg 256 l) (hc : c < 256) : Ev (internal_stringslite_Index.f (S l) (S [c])) (idxN l c) := by
  unfold internal_stringslite_Index.f
  rw [toN_S hd, toN_S (l := [c]) (Dg.cons hc (Dg.nil _))]
  exact ev_pos (by rw [S_size]; rfl) (ev_now rfl)
theorem cut_no {l : List Nat} {c : Nat} (hd : Dg 256 l) (hc : c < 256) (h : c ∉ l) : Ev (strings_Cut.f (S l) (S [c])) (S l, S [], false) := by
  have hi := index_S hd hc
  rw [idxN_no h] at hi
  exact ev_eq strings_Cut.f_eq (Ev.bind (ev_eq internal_stringslite_Cut.f_eq (Ev.bind hi (ev_neg (by decide) (ev_now rfl)))) (ev_now rfl))
theorem cut_at {a b : List Nat} {c : Nat} (hd : Dg 256 (a ++ c :: b)) (hc : c < 256) (h : c ∉ a) (hl : (a ++ c :: b).length ≤ 1000000) : Ev (strings_Cut.f (S (a ++ c :: b)) (S [c])) (S a, S b, true) := by
  have hi := index_S hd hc
  rw [idxN_at h] at hi
  have hlen : (a ++ c :: b).length = a.length + (b.length + 1) := by simp
  have w : IntKind.i64.wrap ((a.length : Int) + ((S [c]).size : Int)) = ((a.length + 1 : Nat) : Int) := by
    rw [S_size, wrap_id (by simp; omega) (by simp; omega)]; simp
  refine ev_eq strings_Cut.f_eq (Ev.bind (ev_eq internal_stringslite_Cut.f_eq (Ev.bind hi ?_)) (ev_now rfl))
  rw [w]
  refine ev_pos (by omega) (ev_pos (by omega) (ev_pos (by rw [S_size]; omega) (ev_pos (by omega) (ev_pos (by rw [S_size]; omega) (ev_now ?_)))))
  rw [S_ext, S_ext, S_size, List.take_length, Int.toNat_natCast, Int.toNat_natCast, List.drop_zero, List.take_left]
  rw [show a.length + 1 = a.length + 1 from rfl, ← List.drop_drop, List.drop_left]
  rfl
/-- Does a text begin with another one? -/
theorem prefix_S {l p : List Nat} (hl : Dg 256 l) (hp : Dg 256 p) (hb : l.length ≤ 1000000) :
    Ev (strings_CutPrefix.f (S l) (S p)) (if l.take p.length = p then (S (l.drop p.length), true) else (S l, false)) := by
  have hs : Ev (internal_stringslite_HasPrefix.f (S l) (S p)) (decide (l.take p.length = p)) := by
    refine ev_eq internal_stringslite_HasPrefix.f_eq ?_
    rw [S_size, S_size, Int.toNat_natCast, S_ext, List.drop_zero]
    by_cases c : p.length ≤ l.length
    · refine ev_pos (by omega) (ev_pos (by omega) (ev_pos (by omega) (ev_now ?_)))
      exact decide_eq_decide.mpr (S_inj (fun x hx => hl x (List.mem_of_mem_take hx)) hp)
    · refine ev_neg (by omega) (ev_now (decide_eq_false fun h => c ?_).symm)
      have := congrArg List.length h
      rw [List.length_take] at this
      omega
  refine ev_eq strings_CutPrefix.f_eq (Ev.bind (ev_eq internal_stringslite_CutPrefix.f_eq (Ev.bind hs ?_)) (ev_now rfl))
  by_cases c : l.take p.length = p
  · have hlen : p.length ≤ l.length := by have := congrArg List.length c; rw [List.length_take] at this; omega
    rw [if_pos c, S_size, S_size, Int.toNat_natCast, S_ext, List.take_length]
    exact ev_neg (by simp [c]) (ev_pos (by omega) (ev_pos (by omega) (ev_now rfl)))
  · rw [if_neg c]
    exact ev_pos (by simp [c]) (ev_now rfl)
/-- The way that a text begins with, and the rest. -/
def opR (l : List Nat) : Int × List Nat × Bool :=
  if l.take 2 = [60, 61] then (2, l.drop 2, true) else if l.take 2 = [62, 61] then (4, l.drop 2, true) else if l.take 2 = [60, 62] then (6, l.drop 2, true) else
  if l.take 1 = [60] then (1, l.drop 1, true) else if l.take 1 = [62] then (3, l.drop 1, true) else if l.take 1 = [61] then (5, l.drop 1, true) else (0, [], false)
theorem op_ok {l : List Nat} (hl : Dg 256 l) (hb : l.length ≤ 1000000) : Ev (cond_op.f (S l)) ((opR l).1, S (opR l).2.1, (opR l).2.2) := by
  have st : ∀ (i : Nat) (o : Int) (p : List Nat), i < 6 → rdI ([2, 4, 6, 1, 3, 5] : List Int) (i : Int) = o → 0 ≤ o → o < 7 →
      rdS [ByteArray.empty, (⟨#[60]⟩ : ByteArray), (⟨#[60, 61]⟩ : ByteArray), (⟨#[62]⟩ : ByteArray), (⟨#[62, 61]⟩ : ByteArray), (⟨#[61]⟩ : ByteArray), (⟨#[60, 62]⟩ : ByteArray)] o = S p → Dg 256 p →
      ∀ R, (l.take p.length = p → R = (o, S (l.drop p.length), true)) → (l.take p.length ≠ p → Ev (cond_op.l0 (S l) ([2, 4, 6, 1, 3, 5] : List Int) 6 ((i + 1 : Nat) : Int)) R) → Ev (cond_op.l0 (S l) ([2, 4, 6, 1, 3, 5] : List Int) 6 (i : Int)) R := by
    intro i o p hi ho h0 h7 hs hp R h1 h2
    refine ev_loop cond_op.l0_eq cond_op.l0_step (ev_pos (by omega) (ev_pos (by omega) (ev_pos (by simp; omega) (Ev.bind (ev_eq cond_signs.f_eq (ev_now rfl)) ?_))))
    rw [ho]
    refine ev_pos h0 (ev_pos h7 ?_)
    refine Ev.bind (a := if l.take p.length = p then (S (l.drop p.length), true) else (S l, false)) (by rw [hs]; exact prefix_S hl hp hb) ?_
    by_cases c : l.take p.length = p
    · rw [if_pos c, h1 c]
      exact ev_pos rfl (ev_now rfl)
    · rw [if_neg c]
      refine ev_neg (by simp) ?_
      rw [show IntKind.i64.wrap ((i : Int) + 1) = ((i + 1 : Nat) : Int) by rw [wrap_id (by omega) (by omega)]; omega]
      exact h2 c
  refine ev_eq cond_op.f_eq ?_
  unfold opR
  have d2 : ∀ x y : Nat, x < 256 → y < 256 → Dg 256 [x, y] := fun x y hx hy => Dg.cons hx (Dg.cons hy (Dg.nil _))
  have d1 : ∀ x : Nat, x < 256 → Dg 256 [x] := fun x hx => Dg.cons hx (Dg.nil _)
  refine st 0 2 [60, 61] (by decide) rfl (by decide) (by decide) rfl (d2 _ _ (by decide) (by decide)) _ (fun (h : l.take 2 = [60, 61]) => by rw [if_pos h]; rfl) (fun (h : l.take 2 ≠ [60, 61]) => ?_)
  rw [if_neg h]
  refine st 1 4 [62, 61] (by decide) rfl (by decide) (by decide) rfl (d2 _ _ (by decide) (by decide)) _ (fun (h : l.take 2 = [62, 61]) => by rw [if_pos h]; rfl) (fun (h : l.take 2 ≠ [62, 61]) => ?_)
  rw [if_neg h]
  refine st 2 6 [60, 62] (by decide) rfl (by decide) (by decide) rfl (d2 _ _ (by decide) (by decide)) _ (fun (h : l.take 2 = [60, 62]) => by rw [if_pos h]; rfl) (fun (h : l.take 2 ≠ [60, 62]) => ?_)
  rw [if_neg h]
  refine st 3 1 [60] (by decide) rfl (by decide) (by decide) rfl (d1 _ (by decide)) _ (fun (h : l.take 1 = [60]) => by rw [if_pos h]; rfl) (fun (h : l.take 1 ≠ [60]) => ?_)
  rw [if_neg h]
  refine st 4 3 [62] (by decide) rfl (by decide) (by decide) rfl (d1 _ (by decide)) _ (fun (h : l.take 1 = [62]) => by rw [if_pos h]; rfl) (fun (h : l.take 1 ≠ [62]) => ?_)
  rw [if_neg h]
  refine st 5 5 [61] (by decide) rfl (by decide) (by decide) rfl (d1 _ (by decide)) _ (fun (h : l.take 1 = [61]) => by rw [if_pos h]; rfl) (fun (h : l.take 1 ≠ [61]) => ?_)
  rw [if_neg h]
  exact ev_loop cond_op.l0_eq cond_op.l0_step (ev_neg (by decide) (ev_now rfl))
/-- From 1 to 30 digits. -/
def okRun (l : List Nat) : Prop := isD l ∧ l ≠ [] ∧ l.length ≤ 30
instance (l : List Nat) : Decidable (isD l) := by unfold isD; exact inferInstance
instance (l : List Nat) : Decidable (okRun l) := by unfold okRun; exact inferInstance
theorem run_ok {l : List Nat} (hd : Dg 256 l) (hb : l.length ≤ 900000) : Ev (cond_run.f (S l)) (decide (okRun l)) := by
  refine ev_eq cond_run.f_eq ?_
  by_cases h0 : l = []
  · subst h0
    exact Ev.bind parse_none (ev_neg (by simp) (ev_now (by decide)))
  · by_cases h : isD l
    · refine Ev.bind (parse_ok h h0 hb) (ev_pos rfl (ev_now ?_))
      rw [S_size]
      exact decide_eq_decide.mpr ⟨fun h1 => ⟨h, h0, by omega⟩, fun h1 => by have := h1.2.2; omega⟩
    · exact Ev.bind (parse_bad hd h hb) (ev_neg (by simp) (ev_now (decide_eq_false fun h1 => h h1.1).symm))
theorem rrun_ok {l : List Nat} (hd : Dg 256 l) (hb : l.length ≤ 900000) : Ev (numeraryref13_run.f (S l)) (decide (okRun l)) := by
  refine ev_eq numeraryref13_run.f_eq ?_
  have loop : ∀ k i, i + k = l.length → isD (l.take i) → Ev (numeraryref13_run.l0 (S l) (i : Int)) (decide (okRun l)) := by
    intro k
    induction k with
    | zero =>
      intro i hi h
      have h : isD l := by rwa [show i = l.length by omega, List.take_length] at h
      refine ev_loop numeraryref13_run.l0_eq numeraryref13_run.l0_step (ev_neg (by rw [S_size]; omega) ?_)
      rw [S_size]
      by_cases c : 1 ≤ l.length
      · refine ev_pos (by omega) (ev_now (decide_eq_decide.mpr ⟨fun h1 => ⟨h, fun e => by subst e; simp at c, by omega⟩, fun h1 => by have := h1.2.2; omega⟩))
      · exact ev_neg (by omega) (ev_now (decide_eq_false fun h1 => h1.2.1 (List.length_eq_zero_iff.mp (by omega))).symm)
    | succ k ih =>
      intro i hi h
      refine ev_loop numeraryref13_run.l0_eq numeraryref13_run.l0_step (ev_pos (by rw [S_size]; omega) (ev_pos (by omega) (ev_pos (by rw [S_size]; omega) ?_)))
      rw [byteAt_S hd]
      have hm : gd l i ∈ l := by unfold gd; rw [List.getD_eq_getElem?_getD, List.getElem?_eq_getElem (by omega)]; exact List.getElem_mem _
      by_cases c : gd l i < 48
      · exact ev_pos (by omega) (ev_now (decide_eq_false fun h1 => by have := h1.1 _ hm; omega).symm)
      · refine ev_neg (by omega) (ev_pos (by omega) (ev_pos (by rw [S_size]; omega) ?_))
        by_cases c2 : 57 < gd l i
        · exact ev_pos (by omega) (ev_now (decide_eq_false fun h1 => by have := h1.1 _ hm; omega).symm)
        · refine ev_neg (by omega) ?_
          rw [show IntKind.i64.wrap ((i : Int) + 1) = ((i + 1 : Nat) : Int) by rw [wrap_id (by omega) (by omega)]; omega]
          refine ih (i + 1) (by omega) ?_
          rw [List.take_succ_eq_append_getElem (by omega)]
          refine isD.app h (isD.cons ?_ isD.nil)
          have : gd l i = l[i]'(by omega) := by unfold gd; rw [List.getD_eq_getElem?_getD, List.getElem?_eq_getElem (by omega)]; rfl
          rw [← this]; omega
  exact loop l.length 0 (by omega) (by simpa using isD.nil)
end Go.Proofs.YtlnbcpcnpofnoaaGreatDoor.F

/- Conditions: how texts are read, by the program and by the document. -/
namespace Go.Proofs.YtlnbcpcnpofnoaaGreatDoor.F
open Go Go.Proofs.YtlnbcpcnpofnoaaGreatDoor.E
set_option linter.unusedVariables false
set_option linter.unusedSimpArgs false
/-- A text at its first point. -/
theorem point_ex (l : List Nat) : (46 ∉ l) ∨ ∃ a b, l = a ++ 46 :: b ∧ 46 ∉ a := by
  induction l with
  | nil => exact .inl (by simp)
  | cons x l ih =>
    by_cases hx : x = 46
    · exact .inr ⟨[], l, by rw [hx]; rfl, by simp⟩
    · rcases ih with h | ⟨a, b, h1, h2⟩
      · exact .inl fun h3 => (List.mem_cons.mp h3).elim (fun e => hx e.symm) h
      · exact .inr ⟨x :: a, b, by rw [h1]; rfl, fun h3 => (List.mem_cons.mp h3).elim (fun e => hx e.symm) h2⟩
def cutD (l : List Nat) : List Nat × List Nat × Bool := if 46 ∈ l then (l.takeWhile (· != 46), (l.dropWhile (· != 46)).drop 1, true) else (l, [], false)
theorem cutD_no {l : List Nat} (h : 46 ∉ l) : cutD l = (l, [], false) := by unfold cutD; rw [if_neg h]
theorem cutD_at {a b : List Nat} (h : 46 ∉ a) : cutD (a ++ 46 :: b) = (a, b, true) := by
  unfold cutD
  rw [if_pos (by simp)]
  have key : (a ++ 46 :: b).takeWhile (· != 46) = a ∧ (a ++ 46 :: b).dropWhile (· != 46) = 46 :: b := by
    induction a with
    | nil => simp
    | cons x a ih =>
      have h1 : 46 ∉ a := fun h' => h (List.mem_cons_of_mem _ h')
      have h2 : (x != 46) = true := by simp; exact fun e => h (by rw [e]; exact List.mem_cons_self)
      obtain ⟨i1, i2⟩ := ih h1
      simp only [List.cons_append, List.takeWhile_cons, List.dropWhile_cons, h2, i1, i2]
      simp
  rw [key.1, key.2]; rfl
abbrev CondL := Int × Bool × List Nat × List Nat
abbrev CondS := Int × Bool × ByteArray × ByteArray
def cS (c : CondL) : CondS := (c.1, c.2.1, S c.2.2.1, S c.2.2.2)
def oS : Option CondL → CondS × Bool
  | none => ((0, false, S [], S []), false)
  | some c => (cS c, true)
def restR (l : List Nat) : List Nat := if l.take 1 = [45] then l.drop 1 else l
def partsR (o : Int) (neg : Bool) (u : List Nat × List Nat × Bool) : Option CondL :=
  if okRun u.1 ∧ (u.2.2 = true → okRun u.2.1) then some (o, neg && decide (trimL u.1 ++ trimR u.2.1 ≠ []), trimL u.1, trimR u.2.1) else none
/-- The condition of a text. -/
def condR (l : List Nat) : Option CondL :=
  if (opR l).2.2 = true then partsR (opR l).1 (decide ((opR l).2.1.take 1 = [45])) (cutD (restR (opR l).2.1)) else none
theorem restR_len (l : List Nat) : (restR l).length ≤ l.length := by unfold restR; split <;> simp
theorem restR_dg {l : List Nat} (h : Dg 256 l) : Dg 256 (restR l) := by
  unfold restR; split
  · exact fun x hx => h x (List.mem_of_mem_drop hx)
  · exact h
theorem opR_len (l : List Nat) : (opR l).2.1.length ≤ l.length := by unfold opR; (repeat' split) <;> simp
theorem opR_dg {l : List Nat} (h : Dg 256 l) : Dg 256 (opR l).2.1 := by
  have hd : ∀ k, Dg 256 (l.drop k) := fun k x hx => h x (List.mem_of_mem_drop hx)
  unfold opR; (repeat' split) <;> first | exact hd _ | exact Dg.nil _
theorem Dg.left {a b : List Nat} (h : Dg 256 (a ++ b)) : Dg 256 a := fun x hx => h x (List.mem_append_left _ hx)
theorem Dg.right {a b : List Nat} (h : Dg 256 (a ++ b)) : Dg 256 b := fun x hx => h x (List.mem_append_right _ hx)
theorem neg_S {a b : List Nat} {n : Bool} (ha : Dg 256 a) (hb : Dg 256 b) : (decide (¬ (S a ++ S b) = (⟨#[]⟩ : ByteArray))) = decide (a ++ b ≠ []) := by
  refine decide_eq_decide.mpr ?_
  rw [S_app, ← S_nil, S_inj (ha.append hb) (Dg.nil _)]
theorem trimL_dg {l : List Nat} (h : Dg 256 l) : Dg 256 (trimL l) := fun x hx => h x ((List.dropWhile_sublist _).subset hx)
theorem trimL_le (l : List Nat) : (trimL l).length ≤ l.length := (List.dropWhile_sublist _).length_le
theorem parse13 {l : List Nat} (hl : Dg 256 l) (hb : l.length ≤ 500000) : Ev (cond_Parse.f (S l)) (oS (condR l)) := by
  have o1 := opR_len l
  have o2 := opR_dg hl
  refine ev_eq cond_Parse.f_eq (Ev.bind (op_ok hl (by omega)) ?_)
  unfold condR
  generalize opR l = q at *
  obtain ⟨o, r, b⟩ := q
  simp only at o1 o2 ⊢
  have hp := prefix_S (p := [45]) o2 (Dg.cons (by decide) (Dg.nil _)) (by omega)
  refine Ev.bind (a := (S (restR r), decide (r.take 1 = [45]))) ?_ ?_
  · unfold restR
    rw [show [45].length = 1 from rfl] at hp
    by_cases c : r.take 1 = [45]
    · rw [if_pos c] at hp; rw [if_pos c, decide_eq_true c]; exact hp
    · rw [if_neg c] at hp; rw [if_neg c, decide_eq_false c]; exact hp
  have r1 := restR_len r
  have r2 := restR_dg o2
  generalize restR r = t at *
  generalize decide (r.take 1 = [45]) = neg at *
  obtain ⟨w, p, has, hcut, hct, hw, hpd, lw, lp⟩ : ∃ w p has, Ev (strings_Cut.f (S t) (S [46])) (S w, S p, has) ∧ cutD t = (w, p, has) ∧ Dg 256 w ∧ Dg 256 p ∧ w.length ≤ 500000 ∧ p.length ≤ 500000 := by
    rcases point_ex t with h | ⟨a, c, h1, h2⟩
    · exact ⟨_, _, _, cut_no r2 (by decide) h, cutD_no h, r2, Dg.nil _, by omega, by simp⟩
    · subst h1
      have : (a ++ 46 :: c).length = a.length + (c.length + 1) := by simp
      exact ⟨_, _, _, cut_at r2 (by decide) h2 (by omega), cutD_at h2, Dg.left r2, fun x hx => r2 x (List.mem_append_right _ (List.mem_cons_of_mem _ hx)), by omega, by omega⟩
  refine Ev.bind hcut ?_
  rw [hct]
  cases b with
  | false => exact ev_pos rfl (ev_now rfl)
  | true =>
    refine ev_neg (by simp) (Ev.bind (run_ok hw (by omega)) ?_)
    rw [if_pos rfl]
    unfold partsR
    have tl := trimL_le w
    have tr := trimR_le p
    have tail : okRun w ∧ (has = true → okRun p) → ∀ A B : List Nat, A = trimL w → B = trimR p → Ev (if neg = true then (if (S A).size + (S B).size ≤ 9223372036854775807 then (M.ret ((o, decide (¬ (S A ++ S B) = (⟨#[]⟩ : ByteArray)), S A, S B), true)) else M.none) else (M.ret ((o, false, S A, S B), true)))
        (oS (if okRun w ∧ (has = true → okRun p) then some (o, neg && decide (trimL w ++ trimR p ≠ []), trimL w, trimR p) else none)) := by
      intro hk A B hA hB
      subst hA; subst hB
      rw [if_pos hk]
      cases neg with
      | true => exact ev_pos rfl (ev_pos (by rw [S_size, S_size]; omega) (ev_now (by rw [neg_S (n := true) (trimL_dg hw) (trimR_dg hpd)]; rfl)))
      | false => exact ev_neg (by simp) (ev_now rfl)
    by_cases c1 : okRun w
    · refine ev_neg (by simp [c1]) ?_
      cases has with
      | false => exact ev_neg (by simp) (Ev.bind (trimLeft_S hw) (Ev.bind (trim_S hpd (by omega)) (tail ⟨c1, fun h => by cases h⟩ _ _ rfl rfl)))
      | true =>
        refine ev_pos rfl (Ev.bind (run_ok hpd (by omega)) ?_)
        by_cases c2 : okRun p
        · exact ev_neg (by simp [c2]) (Ev.bind (trimLeft_S hw) (Ev.bind (trim_S hpd (by omega)) (tail ⟨c1, fun _ => c2⟩ _ _ rfl rfl)))
        · refine ev_pos (by simp [c2]) (ev_now ?_)
          rw [if_neg (fun h : okRun w ∧ (true = true → okRun p) => c2 (h.2 rfl))]
          rfl
    · refine ev_pos (by simp [c1]) (ev_now ?_)
      rw [if_neg (fun h : okRun w ∧ (has = true → okRun p) => c1 h.1)]
      rfl
end Go.Proofs.YtlnbcpcnpofnoaaGreatDoor.F

/- Conditions: how the document reads texts. -/
namespace Go.Proofs.YtlnbcpcnpofnoaaGreatDoor.F
open Go Go.Proofs.YtlnbcpcnpofnoaaGreatDoor.E
set_option linter.unusedVariables false
set_option linter.unusedSimpArgs false
theorem rp_fin {o : Int} {neg : Bool} {w p : List Nat} (hw : Dg 256 w) (hp : Dg 256 p) :
    Ev (if neg = true then (if ¬ (S w) = (⟨#[]⟩ : ByteArray) then (M.ret (((o, true, S w, S p) : CondS), true)) else (M.ret (((o, decide (¬ (S p) = (⟨#[]⟩ : ByteArray)), S w, S p) : CondS), true))) else (M.ret (((o, false, S w, S p) : CondS), true)))
      (cS (o, neg && decide (w ++ p ≠ []), w, p), true) := by
  have e1 : S w = (⟨#[]⟩ : ByteArray) ↔ w = [] := by rw [← S_nil, S_inj hw (Dg.nil _)]
  have e2 : S p = (⟨#[]⟩ : ByteArray) ↔ p = [] := by rw [← S_nil, S_inj hp (Dg.nil _)]
  cases neg with
  | false => exact ev_neg (by simp) (ev_now rfl)
  | true =>
    refine ev_pos rfl ?_
    by_cases c : w = []
    · refine ev_neg (fun h => h (e1.mpr c)) (ev_now ?_)
      subst c
      have : decide (¬ (S p) = (⟨#[]⟩ : ByteArray)) = decide (([] : List Nat) ++ p ≠ []) := decide_eq_decide.mpr (by rw [e2]; rfl)
      rw [this]; rfl
    · refine ev_pos (show ¬ S w = (⟨#[]⟩ : ByteArray) from fun h => c (e1.mp h)) (ev_now ?_)
      have : decide (w ++ p ≠ []) = true := decide_eq_true (fun h => c (List.append_eq_nil_iff.mp h).1)
      unfold cS
      simp only [this]; rfl
theorem rp_l2 {y0 o : Int} {y1 z1 neg : Bool} {y2 y3 z2 z3 : ByteArray} {w : List Nat} (hw : Dg 256 w) (p : List Nat) : Dg 256 p → p.length ≤ 100000 →
    Ev (numeraryref13_Parse.l2 y0 y1 y2 y3 o z1 z2 z3 neg (S w) (S p)) (cS (o, neg && decide (w ++ trimR p ≠ []), w, trimR p), true) := by
  refine snocRec (P := fun p => Dg 256 p → p.length ≤ 100000 → Ev (numeraryref13_Parse.l2 y0 y1 y2 y3 o z1 z2 z3 neg (S w) (S p)) (cS (o, neg && decide (w ++ trimR p ≠ []), w, trimR p), true)) ?_ (fun q c ih => ?_) p
  · intro hp hl
    exact ev_loop numeraryref13_Parse.l2_eq numeraryref13_Parse.l2_step (ev_neg (by rw [S_size]; simp) (rp_fin hw (Dg.nil _)))
  · intro hp hl
    have hq : Dg 256 q := Dg.left hp
    have hlen : (q ++ [c]).length = q.length + 1 := by simp
    refine ev_loop numeraryref13_Parse.l2_eq numeraryref13_Parse.l2_step ?_
    have hw1 : IntKind.i64.wrap (((S (q ++ [c])).size : Int) - 1) = (q.length : Int) := by rw [S_size, hlen, wrap_id (by omega) (by omega)]; omega
    rw [hw1, Int.toNat_natCast, byteAt_S hp, show gd (q ++ [c]) q.length = c by unfold gd; rw [List.getD_eq_getElem?_getD, List.getElem?_append_right (Nat.le_refl _)]; simp, S_ext, List.drop_zero, List.take_left, S_size, hlen, trimR_snoc]
    refine ev_pos (by omega) (ev_pos (by omega) (ev_pos (by omega) ?_))
    by_cases h : c = 48
    · rw [if_pos h]
      exact ev_pos (by omega) (ev_pos (by omega) (ev_pos (by omega) (ih hq (by omega))))
    · rw [if_neg h]
      exact ev_neg (by omega) (rp_fin hw hp)
theorem rp_l1 {y0 o : Int} {y1 z1 neg : Bool} {y2 y3 z2 z3 : ByteArray} {p : List Nat} (hp : Dg 256 p) (hl : p.length ≤ 100000) : ∀ w : List Nat, Dg 256 w → w.length ≤ 100000 →
    Ev (numeraryref13_Parse.l1 y0 y1 y2 y3 o z1 z2 z3 neg (S w) (S p)) (cS (o, neg && decide (trimL w ++ trimR p ≠ []), trimL w, trimR p), true) := by
  intro w
  induction w with
  | nil =>
    intro hw _
    exact ev_loop numeraryref13_Parse.l1_eq numeraryref13_Parse.l1_step (ev_neg (by rw [S_size]; simp) (rp_l2 (Dg.nil _) p hp hl))
  | cons c t ih =>
    intro hw hlw
    have ht : Dg 256 t := fun x hx => hw x (List.mem_cons_of_mem _ hx)
    have hlen : (c :: t).length = t.length + 1 := rfl
    have hb := byteAt_S hw 0
    rw [show gd (c :: t) 0 = c from rfl] at hb
    refine ev_loop numeraryref13_Parse.l1_eq numeraryref13_Parse.l1_step ?_
    have hb' : byteAt (S (c :: t)) 0 = (c : Int) := hb
    rw [hb', S_size, S_ext, List.take_length]
    refine ev_pos (by omega) (ev_pos (by omega) (ev_pos (by omega) ?_))
    by_cases h : c = 48
    · have e : trimL (c :: t) = trimL t := by unfold trimL; rw [h]; rfl
      rw [e]
      exact ev_pos (by omega) (ev_pos (by omega) (ev_pos (by omega) (ih ht (by omega))))
    · have e : trimL (c :: t) = c :: t := by unfold trimL; simp [List.dropWhile_cons, h]
      rw [e]
      exact ev_neg (by omega) (rp_l2 hw p hp hl)
/-- What stands behind both halves. -/
theorem rp_end {y0 o : Int} {y1 z1 neg : Bool} {y2 y3 z2 z3 : ByteArray} {w p : List Nat} (hw : Dg 256 w) (hp : Dg 256 p) (lw : w.length ≤ 100000) (lp : p.length ≤ 100000) {r : CondS × Bool}
    (hr : r = oS (partsR o neg (w, p, true))) :
    Ev (M.bind (numeraryref13_run.f (S w)) fun t1 => (M.bind (numeraryref13_run.f (S p)) fun t2 => (if (!t1) = true then (M.ret (((0, false, ByteArray.empty, ByteArray.empty) : CondS), false)) else (if (!t2) = true then (M.ret (((0, false, ByteArray.empty, ByteArray.empty) : CondS), false)) else (numeraryref13_Parse.l1 y0 y1 y2 y3 o z1 z2 z3 neg (S w) (S p)))))) r := by
  subst hr
  refine Ev.bind (rrun_ok hw (by omega)) (Ev.bind (rrun_ok hp (by omega)) ?_)
  unfold partsR
  by_cases c1 : okRun w
  · refine ev_neg (by simp [c1]) ?_
    by_cases c2 : okRun p
    · refine ev_neg (by simp [c2]) ?_
      rw [if_pos (show okRun w ∧ (true = true → okRun p) from ⟨c1, fun _ => c2⟩)]
      exact rp_l1 hp lp w hw lw
    · refine ev_pos (by simp [c2]) (ev_now ?_)
      rw [if_neg (fun h : okRun w ∧ (true = true → okRun p) => c2 (h.2 rfl))]; rfl
  · refine ev_pos (by simp [c1]) (ev_now ?_)
    rw [if_neg (fun h : okRun w ∧ (true = true → okRun p) => c1 h.1)]; rfl
theorem parts_none {o : Int} {neg : Bool} {w : List Nat} : partsR o neg (w, [48], true) = partsR o neg (w, [], false) := by
  have h : okRun [48] := by decide
  unfold partsR
  by_cases c : okRun w
  · rw [if_pos (show okRun w ∧ (true = true → okRun [48]) from ⟨c, fun _ => h⟩), if_pos (show okRun w ∧ (false = true → okRun []) from ⟨c, fun h => by cases h⟩)]; rfl
  · rw [if_neg (fun h : okRun w ∧ (true = true → okRun [48]) => c h.1), if_neg (fun h : okRun w ∧ (false = true → okRun []) => c h.1)]
theorem rp_l0 {o : Int} {z1 neg : Bool} {z2 z3 : ByteArray} {t : List Nat} (ht : Dg 256 t) (hl : t.length ≤ 100000) :
    Ev (numeraryref13_Parse.l0 (S t) 0 false ByteArray.empty ByteArray.empty 0 false ByteArray.empty ByteArray.empty o z1 z2 z3 neg (S t) (⟨#[48]⟩ : ByteArray) 0) (oS (partsR o neg (cutD t))) := by
  have step : ∀ i, i < t.length → gd t i ≠ 46 → ∀ {R}, Ev (numeraryref13_Parse.l0 (S t) 0 false ByteArray.empty ByteArray.empty 0 false ByteArray.empty ByteArray.empty o z1 z2 z3 neg (S t) (⟨#[48]⟩ : ByteArray) ((i + 1 : Nat) : Int)) R →
      Ev (numeraryref13_Parse.l0 (S t) 0 false ByteArray.empty ByteArray.empty 0 false ByteArray.empty ByteArray.empty o z1 z2 z3 neg (S t) (⟨#[48]⟩ : ByteArray) (i : Int)) R := by
    intro i hi hg R h
    refine ev_loop numeraryref13_Parse.l0_eq numeraryref13_Parse.l0_step (ev_pos (by rw [S_size]; omega) (ev_pos (by omega) (ev_pos (by rw [S_size]; omega) ?_)))
    rw [byteAt_S ht]
    refine ev_neg (by omega) ?_
    rw [show IntKind.i64.wrap ((i : Int) + 1) = ((i + 1 : Nat) : Int) by rw [wrap_id (by omega) (by omega)]; omega]
    exact h
  have walk : ∀ (n : Nat) {R}, n ≤ t.length → (∀ j, j < n → gd t j ≠ 46) → Ev (numeraryref13_Parse.l0 (S t) 0 false ByteArray.empty ByteArray.empty 0 false ByteArray.empty ByteArray.empty o z1 z2 z3 neg (S t) (⟨#[48]⟩ : ByteArray) (n : Int)) R →
      Ev (numeraryref13_Parse.l0 (S t) 0 false ByteArray.empty ByteArray.empty 0 false ByteArray.empty ByteArray.empty o z1 z2 z3 neg (S t) (⟨#[48]⟩ : ByteArray) ((0 : Nat) : Int)) R := by
    intro n
    induction n with
    | zero => intro R _ _ h; exact h
    | succ n ih => intro R hn hg h; exact ih (by omega) (fun j hj => hg j (by omega)) (step n (by omega) (hg n (by omega)) h)
  have gmem : ∀ {l : List Nat} {j : Nat}, j < l.length → gd l j ∈ l := fun {l j} hj => by unfold gd; rw [List.getD_eq_getElem?_getD, List.getElem?_eq_getElem hj]; exact List.getElem_mem _
  rcases point_ex t with h | ⟨a, b, h1, h2⟩
  · rw [cutD_no h, ← parts_none]
    refine walk t.length (Nat.le_refl _) (fun j hj e => h (by rw [← e]; exact gmem hj)) ?_
    exact ev_loop numeraryref13_Parse.l0_eq numeraryref13_Parse.l0_step (ev_neg (by rw [S_size]; omega) (rp_end (p := [48]) ht (Dg.cons (by decide) (Dg.nil _)) hl (by decide) rfl))
  · subst h1
    rw [cutD_at h2]
    have hlen : (a ++ 46 :: b).length = a.length + (b.length + 1) := by simp
    refine walk a.length (by omega) (fun j hj e => h2 ?_) ?_
    · have : gd (a ++ 46 :: b) j = gd a j := by unfold gd; rw [List.getD_eq_getElem?_getD, List.getD_eq_getElem?_getD, List.getElem?_append_left hj]
      rw [← e, this]; exact gmem hj
    · have hg : gd (a ++ 46 :: b) a.length = 46 := by unfold gd; rw [List.getD_eq_getElem?_getD, List.getElem?_append_right (Nat.le_refl _)]; simp
      have hw1 : IntKind.i64.wrap ((a.length : Int) + 1) = ((a.length + 1 : Nat) : Int) := by rw [wrap_id (by omega) (by omega)]; omega
      refine ev_loop numeraryref13_Parse.l0_eq numeraryref13_Parse.l0_step ?_
      rw [hw1, byteAt_S ht, hg, S_size, Int.toNat_natCast, Int.toNat_natCast, S_ext, S_ext, List.drop_zero, List.take_left, List.take_length, show (a ++ 46 :: b).drop (a.length + 1) = b by rw [← List.drop_drop, List.drop_left]; rfl]
      refine ev_pos (by omega) (ev_pos (by omega) (ev_pos (by omega) (ev_pos rfl (ev_pos (by omega) (ev_pos (by omega) (ev_pos (by omega) (ev_pos (by omega) ?_)))))))
      exact rp_end (Dg.left ht) (fun x hx => ht x (List.mem_append_right _ (List.mem_cons_of_mem _ hx))) (by omega) (by omega) rfl
/-- What stands behind the way. -/
theorem rp_tail {o : Int} {z1 : Bool} {z2 z3 : ByteArray} {t : List Nat} (ht : Dg 256 t) (hl : t.length ≤ 100000) :
    Ev (if ((S t).size : Int) > 0 then (if (0 : Int) ≤ 0 then (if 0 < ((S t).size : Int) then (if (byteAt (S t) 0) = 45 then (if (0 : Int) ≤ 1 then (if 1 ≤ ((S t).size : Int) then (numeraryref13_Parse.l0 ((S t).extract 1 (S t).size) 0 false ByteArray.empty ByteArray.empty 0 false ByteArray.empty ByteArray.empty o z1 z2 z3 (decide ((byteAt (S t) 0) = 45)) ((S t).extract 1 (S t).size) (⟨#[48]⟩ : ByteArray) 0) else M.none) else M.none) else (numeraryref13_Parse.l0 (S t) 0 false ByteArray.empty ByteArray.empty 0 false ByteArray.empty ByteArray.empty o z1 z2 z3 (decide ((byteAt (S t) 0) = 45)) (S t) (⟨#[48]⟩ : ByteArray) 0)) else M.none) else M.none) else (numeraryref13_Parse.l0 (S t) 0 false ByteArray.empty ByteArray.empty 0 false ByteArray.empty ByteArray.empty o z1 z2 z3 false (S t) (⟨#[48]⟩ : ByteArray) 0))
      (oS (partsR o (decide (t.take 1 = [45])) (cutD (restR t)))) := by
  unfold restR
  rw [S_size]
  cases t with
  | nil =>
    refine ev_neg (by simp) ?_
    rw [if_neg (by simp), decide_eq_false (by simp)]
    exact rp_l0 (Dg.nil _) (by simp)
  | cons c t =>
    have ht' : Dg 256 t := fun x hx => ht x (List.mem_cons_of_mem _ hx)
    have hb : byteAt (S (c :: t)) 0 = (c : Int) := byteAt_S ht 0
    have hlen : (c :: t).length = t.length + 1 := rfl
    rw [hb, S_ext, List.take_length]
    refine ev_pos (by omega) (ev_pos (by omega) (ev_pos (by omega) ?_))
    by_cases h : c = 45
    · have h' : (c :: t).take 1 = [45] := by rw [h]; rfl
      refine ev_pos (by omega) (ev_pos (by omega) (ev_pos (by omega) ?_))
      rw [if_pos h', decide_eq_true h', decide_eq_true (show (c : Int) = 45 by omega)]
      exact rp_l0 ht' (show t.length ≤ 100000 by omega)
    · have h' : (c :: t).take 1 ≠ [45] := by simpa using h
      refine ev_neg (by omega) ?_
      rw [if_neg h', decide_eq_false h', decide_eq_false (show ¬ (c : Int) = 45 by omega)]
      exact rp_l0 ht hl
end Go.Proofs.YtlnbcpcnpofnoaaGreatDoor.F

/- Conditions: read by the document; their texts; there and back. -/
namespace Go.Proofs.YtlnbcpcnpofnoaaGreatDoor.F
open Go Go.Proofs.YtlnbcpcnpofnoaaGreatDoor.E
set_option linter.unusedVariables false
set_option linter.unusedSimpArgs false
theorem rparse13 {l : List Nat} (hl : Dg 256 l) (hb : l.length ≤ 100000) : Ev (numeraryref13_Parse.f (S l)) (oS (condR l)) := by
  have ok0 : ¬ okRun [] := by decide
  have sne : ∀ {a b : List Nat}, Dg 256 a → Dg 256 b → a ≠ b → ¬ S a = S b := fun ha hb h e => h ((S_inj ha hb).mp e)
  refine ev_eq numeraryref13_Parse.f_eq ?_
  rw [S_size]
  match l, hl, hb with
  | [], _, _ =>
    refine ev_pos (by simp) (ev_now ?_)
    rfl
  | [x], _, _ =>
    refine ev_pos (by simp) (ev_now ?_)
    have : condR [x] = none := by
      unfold condR opR
      by_cases h1 : x = 60
      · subst h1; rfl
      · by_cases h2 : x = 62
        · subst h2; rfl
        · by_cases h3 : x = 61
          · subst h3; rfl
          · simp [h1, h2, h3]
    rw [this]; rfl
  | x :: y :: r, hl, hb =>
    have hx : x < 256 := hl x (by simp)
    have hy : y < 256 := hl y (by simp)
    have hr : Dg 256 r := fun z hz => hl z (by simp [hz])
    have hyr : Dg 256 (y :: r) := Dg.cons hy hr
    have hxy : Dg 256 [x, y] := Dg.cons hx (Dg.cons hy (Dg.nil _))
    have hx1 : Dg 256 [x] := Dg.cons hx (Dg.nil _)
    have hlen : (x :: y :: r).length = r.length + 2 := rfl
    have d1 : ∀ c : Nat, c < 256 → Dg 256 [c] := fun c h => Dg.cons h (Dg.nil _)
    have d2 : ∀ c d : Nat, c < 256 → d < 256 → Dg 256 [c, d] := fun c d h h' => Dg.cons h (d1 d h')
    have x2 : (S (x :: y :: r)).extract 0 2 = S [x, y] := S_ext _ _ _
    have x1 : (S (x :: y :: r)).extract 0 1 = S [x] := S_ext _ _ _
    have y2 : (S (x :: y :: r)).extract 2 (x :: y :: r).length = S r := by rw [S_ext, List.take_length]; rfl
    have y1 : (S (x :: y :: r)).extract 1 (x :: y :: r).length = S (y :: r) := by rw [S_ext, List.take_length]; rfl
    have n2 : ∀ c d : Nat, c < 256 → d < 256 → ¬ (x = c ∧ y = d) → ¬ S [x, y] = S [c, d] := fun c d h h' hn => sne hxy (d2 c d h h') (fun e => hn (by simpa using e))
    have n1 : ∀ c : Nat, c < 256 → ¬ S [x, y] = S [c] := fun c h => sne hxy (d1 c h) (by simp)
    have m1 : ∀ c : Nat, c < 256 → ¬ x = c → ¬ S [x] = S [c] := fun c h hn => sne hx1 (d1 c h) (fun e => hn (by simpa using e))
    have m2 : ∀ c d : Nat, c < 256 → d < 256 → ¬ S [x] = S [c, d] := fun c d h h' => sne hx1 (d2 c d h h') (by simp)
    rw [x2, x1, y2, y1]
    have p2 : (2 : Int) ≤ ((x :: y :: r).length : Int) := by omega
    have p1 : (1 : Int) ≤ ((x :: y :: r).length : Int) := by omega
    refine ev_neg (by omega) (ev_pos (by decide) (ev_pos p2 ?_))
    unfold condR opR
    rw [show (x :: y :: r).take 2 = [x, y] from rfl, show (x :: y :: r).take 1 = [x] from rfl, show (x :: y :: r).drop 2 = r from rfl, show (x :: y :: r).drop 1 = y :: r from rfl]
    have b1 : ∀ {c : Nat}, [x] = [c] ↔ x = c := by intro c; simp
    have b2 : ∀ {c d : Nat}, [x, y] = [c, d] ↔ x = c ∧ y = d := by intro c d; simp
    have t2 := fun o => rp_tail (o := o) (z1 := false) (z2 := ByteArray.empty) (z3 := ByteArray.empty) hr (show r.length ≤ 100000 by omega)
    have t1 := fun o => rp_tail (o := o) (z1 := false) (z2 := ByteArray.empty) (z3 := ByteArray.empty) hyr (show (y :: r).length ≤ 100000 by simp at hb ⊢; omega)
    by_cases c1 : x = 60 ∧ y = 61
    · refine ev_pos (show S [x, y] = S [60, 61] by rw [c1.1, c1.2]) (ev_pos (by decide) (ev_pos p2 (ev_neg (n1 60 (by decide)) (ev_pos (show S [x, y] = S [60, 61] by rw [c1.1, c1.2]) (ev_pos (by decide) (ev_pos p2 ?_))))))
      rw [if_pos (b2.mpr c1)]
      exact t2 2
    refine ev_neg (n2 60 61 (by decide) (by decide) c1) ?_
    by_cases c2 : x = 62 ∧ y = 61
    · refine ev_pos (show S [x, y] = S [62, 61] by rw [c2.1, c2.2]) (ev_pos (by decide) (ev_pos p2 (ev_neg (n1 60 (by decide)) (ev_neg (n2 60 61 (by decide) (by decide) c1) (ev_neg (n1 62 (by decide)) (ev_pos (show S [x, y] = S [62, 61] by rw [c2.1, c2.2]) (ev_pos (by decide) (ev_pos p2 ?_))))))))
      rw [if_neg (fun h : [x, y] = [60, 61] => c1 (b2.mp h)), if_pos (b2.mpr c2)]
      exact t2 4
    refine ev_neg (n2 62 61 (by decide) (by decide) c2) ?_
    by_cases c3 : x = 60 ∧ y = 62
    · refine ev_pos (show S [x, y] = S [60, 62] by rw [c3.1, c3.2]) (ev_pos (by decide) (ev_pos p2 (ev_neg (n1 60 (by decide)) (ev_neg (n2 60 61 (by decide) (by decide) c1) (ev_neg (n1 62 (by decide)) (ev_neg (n2 62 61 (by decide) (by decide) c2) (ev_neg (n1 61 (by decide)) (ev_pos (show S [x, y] = S [60, 62] by rw [c3.1, c3.2]) (ev_pos (by decide) (ev_pos p2 ?_))))))))))
      rw [if_neg (fun h : [x, y] = [60, 61] => c1 (b2.mp h)), if_neg (fun h : [x, y] = [62, 61] => c2 (b2.mp h)), if_pos (b2.mpr c3)]
      exact t2 6
    refine ev_neg (n2 60 62 (by decide) (by decide) c3) (ev_pos (by decide) (ev_pos p1 ?_))
    rw [if_neg (fun h : [x, y] = [60, 61] => c1 (b2.mp h)), if_neg (fun h : [x, y] = [62, 61] => c2 (b2.mp h)), if_neg (fun h : [x, y] = [60, 62] => c3 (b2.mp h))]
    by_cases c4 : x = 60
    · refine ev_pos (show S [x] = S [60] by rw [c4]) (ev_pos (by decide) (ev_pos p1 ?_))
      rw [if_pos (b1.mpr c4)]
      exact t1 1
    refine ev_neg (m1 60 (by decide) c4) (ev_neg (m2 60 61 (by decide) (by decide)) ?_)
    rw [if_neg (fun h : [x] = [60] => c4 (b1.mp h))]
    by_cases c5 : x = 62
    · refine ev_pos (show S [x] = S [62] by rw [c5]) (ev_pos (by decide) (ev_pos p1 ?_))
      rw [if_pos (b1.mpr c5)]
      exact t1 3
    refine ev_neg (m1 62 (by decide) c5) (ev_neg (m2 62 61 (by decide) (by decide)) ?_)
    rw [if_neg (fun h : [x] = [62] => c5 (b1.mp h))]
    by_cases c6 : x = 61
    · refine ev_pos (show S [x] = S [61] by rw [c6]) (ev_pos (by decide) (ev_pos p1 ?_))
      rw [if_pos (b1.mpr c6)]
      exact t1 5
    refine ev_neg (m1 61 (by decide) c6) (ev_neg (m2 60 62 (by decide) (by decide)) (ev_now ?_))
    rw [if_neg (fun h : [x] = [61] => c6 (b1.mp h))]
    rfl
/-! ### texts -/
def preL (o : Int) : List Nat := if o = 1 then [60] else if o = 2 then [60, 61] else if o = 3 then [62] else if o = 4 then [62, 61] else if o = 5 then [61] else if o = 6 then [60, 62] else []
def textL (c : CondL) : List Nat := preL c.1 ++ ((if c.2.1 = true then [45] else []) ++ ((if c.2.2.1 = [] then [48] else []) ++ (c.2.2.1 ++ if c.2.2.2 = [] then [] else 46 :: c.2.2.2)))
theorem preL_dg (o : Int) : Dg 256 (preL o) := by
  unfold preL; (repeat' split) <;> first | exact Dg.nil _ | exact Dg.cons (by decide) (Dg.nil _) | exact Dg.cons (by decide) (Dg.cons (by decide) (Dg.nil _))
theorem preL_len (o : Int) : (preL o).length ≤ 2 := by unfold preL; (repeat' split) <;> simp
theorem textL_dg {c : CondL} (hw : Dg 256 c.2.2.1) (hp : Dg 256 c.2.2.2) : Dg 256 (textL c) := by
  unfold textL
  refine (preL_dg _).append (Dg.append ?_ (Dg.append ?_ (hw.append ?_)))
  · split
    · exact Dg.cons (by decide) (Dg.nil _)
    · exact Dg.nil _
  · split
    · exact Dg.cons (by decide) (Dg.nil _)
    · exact Dg.nil _
  · split
    · exact Dg.nil _
    · exact Dg.cons (by decide) hp
theorem textL_len (c : CondL) : (textL c).length ≤ c.2.2.1.length + c.2.2.2.length + 5 := by
  unfold textL
  have := preL_len c.1
  simp only [List.length_append]
  have h1 : (if c.2.1 = true then [45] else []).length ≤ 1 := by split <;> simp
  have h2 : (if c.2.2.1 = [] then [48] else []).length ≤ 1 := by split <;> simp
  have h3 : (if c.2.2.2 = [] then [] else 46 :: c.2.2.2).length ≤ c.2.2.2.length + 1 := by split <;> simp
  omega
end Go.Proofs.YtlnbcpcnpofnoaaGreatDoor.F

/- Conditions: their texts, by the program and by the document. -/
namespace Go.Proofs.YtlnbcpcnpofnoaaGreatDoor.F
open Go Go.Proofs.YtlnbcpcnpofnoaaGreatDoor.E
set_option linter.unusedVariables false
set_option linter.unusedSimpArgs false
theorem cutD_false {t : List Nat} (h : (cutD t).2.2 = false) : (cutD t).2.1 = [] := by
  unfold cutD at h ⊢
  split
  · rename_i c; rw [if_pos c] at h; cases h
  · rfl
theorem condR_dg {l : List Nat} (hl : Dg 256 l) {c : CondL} (h : condR l = some c) : Dg 256 c.2.2.1 ∧ Dg 256 c.2.2.2 ∧ isD c.2.2.1 ∧ isD c.2.2.2 ∧ c.2.2.1.length ≤ 30 ∧ c.2.2.2.length ≤ 30 ∧ trimL c.2.2.1 = c.2.2.1 ∧ trimR c.2.2.2 = c.2.2.2 ∧ (c.2.1 = true → c.2.2.1 ++ c.2.2.2 ≠ []) ∧ c.1 = (opR l).1 ∧ (opR l).2.2 = true := by
  have dL : ∀ {x : List Nat}, isD x → isD (trimL x) := fun hx c hc => hx c ((List.dropWhile_sublist _).subset hc)
  have dR : ∀ {x : List Nat}, isD x → isD (trimR x) := fun {x} hx c hc => by
    obtain ⟨k, h1, _⟩ := trimR_spec x
    exact hx c (by rw [h1]; exact List.mem_append_left _ hc)
  have iL : ∀ x : List Nat, trimL (trimL x) = trimL x := fun x => by
    unfold trimL
    induction x with
    | nil => rfl
    | cons a x ih =>
      rw [List.dropWhile_cons]
      by_cases h : (a == 48) = true
      · rw [if_pos h]; exact ih
      · rw [if_neg h, List.dropWhile_cons, if_neg h]
  unfold condR at h
  split at h
  · rename_i ho
    unfold partsR at h
    split at h
    · rename_i hk
      obtain rfl := Option.some.inj h
      have hno := cutD_false (t := restR (opR l).2.1)
      generalize cutD (restR (opR l).2.1) = u at *
      obtain ⟨w, p, has⟩ := u
      simp only at hno
      obtain ⟨k1, k2⟩ := hk
      have hp : isD p ∧ p.length ≤ 30 := by
        cases has with
        | false => rw [show p = [] from hno rfl]; exact ⟨isD.nil, by simp⟩
        | true => exact ⟨(k2 rfl).1, (k2 rfl).2.2⟩
      have q1 := dL k1.1
      have q2 := dR hp.1
      have q3 := trimL_le w
      have q4 := trimR_le p
      have q5 := k1.2.2
      refine ⟨q1.dg, q2.dg, q1, q2, ?_, ?_, iL w, trimR_idem p, fun hn => ?_, rfl, ho⟩
      · show (trimL w).length ≤ 30
        simp only at q5; omega
      · show (trimR p).length ≤ 30
        omega
      · simp only [Bool.and_eq_true, decide_eq_true_eq] at hn
        exact hn.2
    · cases h
  · cases h
theorem text_fin {l : List Nat} (hl : Dg 256 l) {c : CondL} (hw : Dg 256 c.2.2.1) (hp : Dg 256 c.2.2.2) {r : ByteArray × Bool} (hr : r = if condR l = some c then (S l, true) else (S [], false)) :
    Ev (if (!(oS (condR l)).2) = true then (M.ret ((⟨#[]⟩ : ByteArray), false)) else (if ¬ ((oS (condR l)).1.1 = c.1 ∧ (oS (condR l)).1.2.1 = c.2.1 ∧ (oS (condR l)).1.2.2.1 = S c.2.2.1 ∧ (oS (condR l)).1.2.2.2 = S c.2.2.2) then (M.ret ((⟨#[]⟩ : ByteArray), false)) else (M.ret (S l, true)))) r := by
  subst hr
  cases h : condR l with
  | none =>
    refine ev_pos rfl (ev_now ?_)
    rw [if_neg (by simp)]; rfl
  | some d =>
    obtain ⟨d1, d2, _⟩ := condR_dg hl h
    refine ev_neg (by simp [oS]) ?_
    have key : ((oS (some d)).1.1 = c.1 ∧ (oS (some d)).1.2.1 = c.2.1 ∧ (oS (some d)).1.2.2.1 = S c.2.2.1 ∧ (oS (some d)).1.2.2.2 = S c.2.2.2) ↔ d = c := by
      show (d.1 = c.1 ∧ d.2.1 = c.2.1 ∧ S d.2.2.1 = S c.2.2.1 ∧ S d.2.2.2 = S c.2.2.2) ↔ _
      rw [S_inj d1 hw, S_inj d2 hp]
      obtain ⟨d1, d2, d3, d4⟩ := d
      obtain ⟨c1, c2, c3, c4⟩ := c
      simp
    by_cases e : d = c
    · refine ev_neg (fun hn => hn (key.mpr e)) (ev_now ?_)
      rw [if_pos (by rw [e])]
    · refine ev_pos (show ¬ ((oS (some d)).1.1 = c.1 ∧ (oS (some d)).1.2.1 = c.2.1 ∧ (oS (some d)).1.2.2.1 = S c.2.2.1 ∧ (oS (some d)).1.2.2.2 = S c.2.2.2) from fun hk => e (key.mp hk)) (ev_now ?_)
      rw [if_neg (by simpa using e)]; rfl
theorem e45 : (⟨#[45]⟩ : ByteArray) = S [45] := rfl
theorem e46 : (⟨#[46]⟩ : ByteArray) = S [46] := rfl
theorem e48 : (⟨#[48]⟩ : ByteArray) = S [48] := rfl
theorem eNo : (⟨#[]⟩ : ByteArray) = S [] := rfl
theorem sign_rd {o : Int} (h1 : 1 ≤ o) (h6 : o ≤ 6) : rdS [ByteArray.empty, (⟨#[60]⟩ : ByteArray), (⟨#[60, 61]⟩ : ByteArray), (⟨#[62]⟩ : ByteArray), (⟨#[62, 61]⟩ : ByteArray), (⟨#[61]⟩ : ByteArray), (⟨#[60, 62]⟩ : ByteArray)] o = S (preL o) := by
  have : o = 1 ∨ o = 2 ∨ o = 3 ∨ o = 4 ∨ o = 5 ∨ o = 6 := by omega
  rcases this with rfl | rfl | rfl | rfl | rfl | rfl <;> rfl
theorem text13 {c : CondL} (hw : Dg 256 c.2.2.1) (hp : Dg 256 c.2.2.2) (lw : c.2.2.1.length ≤ 1000) (lp : c.2.2.2.length ≤ 1000) :
    Ev (cond_Cond_Text.f (cS c)) (if (1 ≤ c.1 ∧ c.1 ≤ 6) ∧ condR (textL c) = some c then (S (textL c), true) else (S [], false)) := by
  have ht := textL_dg hw hp
  have hlen := textL_len c
  have hl2 := preL_len c.1
  have hpar := parse13 ht (by omega)
  have hfin := fun {r} => text_fin (l := textL c) ht hw hp (r := r)
  obtain ⟨o, n, w, p⟩ := c
  simp only at hw hp lw lp hl2 hlen
  show Ev (cond_Cond_Text.f (o, n, S w, S p)) (if (1 ≤ o ∧ o ≤ 6) ∧ condR (textL (o, n, w, p)) = some (o, n, w, p) then (S (textL (o, n, w, p)), true) else (S [], false))
  refine ev_eq cond_Cond_Text.f_eq ?_
  by_cases h1 : o < 1
  · refine ev_pos h1 (ev_now ?_)
    rw [if_neg (fun h => by omega)]; rfl
  refine ev_neg h1 ?_
  by_cases h6 : o > 6
  · refine ev_pos h6 (ev_now ?_)
    rw [if_neg (fun h => by omega)]; rfl
  refine ev_neg h6 (Ev.bind (ev_eq cond_signs.f_eq (ev_now rfl)) ?_)
  refine ev_pos (show 0 ≤ o by omega) (ev_pos (show o < 7 by omega) ?_)
  have hs := sign_rd (o := o) (by omega) (by omega)
  have hio : 1 ≤ o ∧ o ≤ 6 := ⟨by omega, by omega⟩
  have hfin := hfin (r := if (1 ≤ o ∧ o ≤ 6) ∧ condR (textL (o, n, w, p)) = some (o, n, w, p) then (S (textL (o, n, w, p)), true) else (S [], false)) (by
    by_cases h : condR (textL (o, n, w, p)) = some (o, n, w, p)
    · rw [if_pos ⟨hio, h⟩, if_pos h]
    · rw [if_neg (fun h' => h h'.2), if_neg h])
  generalize hR : (if (1 ≤ o ∧ o ≤ 6) ∧ condR (textL (o, n, w, p)) = some (o, n, w, p) then (S (textL (o, n, w, p)), true) else (S [], false)) = R at *
  clear hR
  have e0 : S w = S [] ↔ w = [] := S_inj hw (Dg.nil _)
  have e1 : S p = S [] ↔ p = [] := S_inj hp (Dg.nil _)
  rw [hs, e45, e46, e48]
  generalize hT : textL (o, n, w, p) = T at *
  unfold textL at hT
  simp only at hT
  have szs : ∀ a b : List Nat, a.length + b.length ≤ 9000 → (S a).size + (S b).size ≤ 9223372036854775807 := fun a b h => by rw [S_size, S_size]; omega
  cases n with
  | true =>
    refine ev_pos rfl (ev_pos (szs _ _ (by (try simp); omega)) ?_)
    by_cases c1 : w = []
    · refine ev_pos (e0.mpr c1) ?_
      simp only [S_app]
      refine ev_pos (szs _ _ (by (try simp); omega)) (ev_pos (szs _ _ (by (try simp); omega)) ?_)
      by_cases c2 : p = []
      · refine ev_neg (fun h => h (e1.mpr c2)) ?_
        rw [if_pos rfl, if_pos c1, if_pos c2] at hT
        rw [show ((preL o ++ [45]) ++ [48]) ++ w = T by rw [← hT]; simp]
        exact Ev.bind hpar hfin
      · refine ev_pos (show ¬ S p = (⟨#[]⟩ : ByteArray) from fun h => c2 (e1.mp h)) (ev_pos (szs _ _ (by (try simp); omega)) (ev_pos (szs _ _ (by (try simp); omega)) ?_))
        rw [if_pos rfl, if_pos c1, if_neg c2] at hT
        rw [show (((preL o ++ [45]) ++ [48]) ++ w) ++ ([46] ++ p) = T by rw [← hT]; simp]
        exact Ev.bind hpar hfin
    · refine ev_neg (show ¬ S w = (⟨#[]⟩ : ByteArray) from fun h => c1 (e0.mp h)) ?_
      simp only [S_app]
      refine ev_pos (szs _ _ (by (try simp); omega)) ?_
      by_cases c2 : p = []
      · refine ev_neg (fun h => h (e1.mpr c2)) ?_
        rw [if_pos rfl, if_neg c1, if_pos c2] at hT
        rw [show (preL o ++ [45]) ++ w = T by rw [← hT]; simp]
        exact Ev.bind hpar hfin
      · refine ev_pos (show ¬ S p = (⟨#[]⟩ : ByteArray) from fun h => c2 (e1.mp h)) (ev_pos (szs _ _ (by (try simp); omega)) (ev_pos (szs _ _ (by (try simp); omega)) ?_))
        rw [if_pos rfl, if_neg c1, if_neg c2] at hT
        rw [show ((preL o ++ [45]) ++ w) ++ ([46] ++ p) = T by rw [← hT]; simp]
        exact Ev.bind hpar hfin
  | false =>
    refine ev_neg (by simp) ?_
    by_cases c1 : w = []
    · refine ev_pos (e0.mpr c1) ?_
      simp only [S_app]
      refine ev_pos (szs _ _ (by (try simp); omega)) (ev_pos (szs _ _ (by (try simp); omega)) ?_)
      by_cases c2 : p = []
      · refine ev_neg (fun h => h (e1.mpr c2)) ?_
        rw [if_neg (by simp), if_pos c1, if_pos c2] at hT
        rw [show (preL o ++ [48]) ++ w = T by rw [← hT]; simp]
        exact Ev.bind hpar hfin
      · refine ev_pos (show ¬ S p = (⟨#[]⟩ : ByteArray) from fun h => c2 (e1.mp h)) (ev_pos (szs _ _ (by (try simp); omega)) (ev_pos (szs _ _ (by (try simp); omega)) ?_))
        rw [if_neg (by simp), if_pos c1, if_neg c2] at hT
        rw [show ((preL o ++ [48]) ++ w) ++ ([46] ++ p) = T by rw [← hT]; simp]
        exact Ev.bind hpar hfin
    · refine ev_neg (show ¬ S w = (⟨#[]⟩ : ByteArray) from fun h => c1 (e0.mp h)) ?_
      simp only [S_app]
      refine ev_pos (szs _ _ (by (try simp); omega)) ?_
      by_cases c2 : p = []
      · refine ev_neg (fun h => h (e1.mpr c2)) ?_
        rw [if_neg (by simp), if_neg c1, if_pos c2] at hT
        rw [show preL o ++ w = T by rw [← hT]; simp]
        exact Ev.bind hpar hfin
      · refine ev_pos (show ¬ S p = (⟨#[]⟩ : ByteArray) from fun h => c2 (e1.mp h)) (ev_pos (szs _ _ (by (try simp); omega)) (ev_pos (szs _ _ (by (try simp); omega)) ?_))
        rw [if_neg (by simp), if_neg c1, if_neg c2] at hT
        rw [show (preL o ++ w) ++ ([46] ++ p) = T by rw [← hT]; simp]
        exact Ev.bind hpar hfin
theorem rt_tail {A : ByteArray} {pre w p : List Nat} {n : Bool} (hA : A = S pre) (hw : Dg 256 w) (hp : Dg 256 p) (lw : w.length ≤ 1000) (lp : p.length ≤ 1000) (lpre : pre.length ≤ 2) :
    Ev (if n = true then (if A.size + (⟨#[45]⟩ : ByteArray).size ≤ 9223372036854775807 then (if (S w) = (⟨#[]⟩ : ByteArray) then (if (A ++ (⟨#[45]⟩ : ByteArray)).size + (⟨#[48]⟩ : ByteArray).size ≤ 9223372036854775807 then (if ((A ++ (⟨#[45]⟩ : ByteArray)) ++ (⟨#[48]⟩ : ByteArray)).size + (S w).size ≤ 9223372036854775807 then (if ¬ (S p) = (⟨#[]⟩ : ByteArray) then (if (((A ++ (⟨#[45]⟩ : ByteArray)) ++ (⟨#[48]⟩ : ByteArray)) ++ (S w)).size + (⟨#[46]⟩ : ByteArray).size ≤ 9223372036854775807 then (if ((((A ++ (⟨#[45]⟩ : ByteArray)) ++ (⟨#[48]⟩ : ByteArray)) ++ (S w)) ++ (⟨#[46]⟩ : ByteArray)).size + (S p).size ≤ 9223372036854775807 then (M.ret (((((A ++ (⟨#[45]⟩ : ByteArray)) ++ (⟨#[48]⟩ : ByteArray)) ++ (S w)) ++ (⟨#[46]⟩ : ByteArray)) ++ (S p))) else M.none) else M.none) else (M.ret (((A ++ (⟨#[45]⟩ : ByteArray)) ++ (⟨#[48]⟩ : ByteArray)) ++ (S w)))) else M.none) else M.none) else (if (A ++ (⟨#[45]⟩ : ByteArray)).size + (S w).size ≤ 9223372036854775807 then (if ¬ (S p) = (⟨#[]⟩ : ByteArray) then (if ((A ++ (⟨#[45]⟩ : ByteArray)) ++ (S w)).size + (⟨#[46]⟩ : ByteArray).size ≤ 9223372036854775807 then (if (((A ++ (⟨#[45]⟩ : ByteArray)) ++ (S w)) ++ (⟨#[46]⟩ : ByteArray)).size + (S p).size ≤ 9223372036854775807 then (M.ret ((((A ++ (⟨#[45]⟩ : ByteArray)) ++ (S w)) ++ (⟨#[46]⟩ : ByteArray)) ++ (S p))) else M.none) else M.none) else (M.ret ((A ++ (⟨#[45]⟩ : ByteArray)) ++ (S w)))) else M.none)) else M.none) else (if (S w) = (⟨#[]⟩ : ByteArray) then (if A.size + (⟨#[48]⟩ : ByteArray).size ≤ 9223372036854775807 then (if (A ++ (⟨#[48]⟩ : ByteArray)).size + (S w).size ≤ 9223372036854775807 then (if ¬ (S p) = (⟨#[]⟩ : ByteArray) then (if ((A ++ (⟨#[48]⟩ : ByteArray)) ++ (S w)).size + (⟨#[46]⟩ : ByteArray).size ≤ 9223372036854775807 then (if (((A ++ (⟨#[48]⟩ : ByteArray)) ++ (S w)) ++ (⟨#[46]⟩ : ByteArray)).size + (S p).size ≤ 9223372036854775807 then (M.ret ((((A ++ (⟨#[48]⟩ : ByteArray)) ++ (S w)) ++ (⟨#[46]⟩ : ByteArray)) ++ (S p))) else M.none) else M.none) else (M.ret ((A ++ (⟨#[48]⟩ : ByteArray)) ++ (S w)))) else M.none) else M.none) else (if A.size + (S w).size ≤ 9223372036854775807 then (if ¬ (S p) = (⟨#[]⟩ : ByteArray) then (if (A ++ (S w)).size + (⟨#[46]⟩ : ByteArray).size ≤ 9223372036854775807 then (if ((A ++ (S w)) ++ (⟨#[46]⟩ : ByteArray)).size + (S p).size ≤ 9223372036854775807 then (M.ret (((A ++ (S w)) ++ (⟨#[46]⟩ : ByteArray)) ++ (S p))) else M.none) else M.none) else (M.ret (A ++ (S w)))) else M.none)))
      (S (pre ++ ((if n = true then [45] else []) ++ ((if w = [] then [48] else []) ++ (w ++ if p = [] then [] else 46 :: p))))) := by
  subst hA
  have e0 : S w = S [] ↔ w = [] := S_inj hw (Dg.nil _)
  have e1 : S p = S [] ↔ p = [] := S_inj hp (Dg.nil _)
  rw [e45, e46, e48]
  have szs : ∀ a b : List Nat, a.length + b.length ≤ 9000 → (S a).size + (S b).size ≤ 9223372036854775807 := fun a b h => by rw [S_size, S_size]; omega
  cases n with
  | true =>
    refine ev_pos rfl (ev_pos (szs _ _ (by (try simp); omega)) ?_)
    simp only [S_app]
    by_cases c1 : w = []
    · refine ev_pos (e0.mpr c1) (ev_pos (szs _ _ (by (try simp); omega)) (ev_pos (szs _ _ (by (try simp); omega)) ?_))
      by_cases c2 : p = []
      · refine ev_neg (fun h => h (e1.mpr c2)) (ev_now ?_)
        simp [c1, c2]
      · refine ev_pos (show ¬ S p = (⟨#[]⟩ : ByteArray) from fun h => c2 (e1.mp h)) (ev_pos (szs _ _ (by (try simp); omega)) (ev_pos (szs _ _ (by (try simp); omega)) (ev_now ?_)))
        simp [c1, c2]
    · refine ev_neg (show ¬ S w = (⟨#[]⟩ : ByteArray) from fun h => c1 (e0.mp h)) (ev_pos (szs _ _ (by (try simp); omega)) ?_)
      by_cases c2 : p = []
      · refine ev_neg (fun h => h (e1.mpr c2)) (ev_now ?_)
        simp [c1, c2]
      · refine ev_pos (show ¬ S p = (⟨#[]⟩ : ByteArray) from fun h => c2 (e1.mp h)) (ev_pos (szs _ _ (by (try simp); omega)) (ev_pos (szs _ _ (by (try simp); omega)) (ev_now ?_)))
        simp [c1, c2]
  | false =>
    refine ev_neg (by simp) ?_
    simp only [S_app]
    by_cases c1 : w = []
    · refine ev_pos (e0.mpr c1) (ev_pos (szs _ _ (by (try simp); omega)) (ev_pos (szs _ _ (by (try simp); omega)) ?_))
      by_cases c2 : p = []
      · refine ev_neg (fun h => h (e1.mpr c2)) (ev_now ?_)
        simp [c1, c2]
      · refine ev_pos (show ¬ S p = (⟨#[]⟩ : ByteArray) from fun h => c2 (e1.mp h)) (ev_pos (szs _ _ (by (try simp); omega)) (ev_pos (szs _ _ (by (try simp); omega)) (ev_now ?_)))
        simp [c1, c2]
    · refine ev_neg (show ¬ S w = (⟨#[]⟩ : ByteArray) from fun h => c1 (e0.mp h)) (ev_pos (szs _ _ (by (try simp); omega)) ?_)
      by_cases c2 : p = []
      · refine ev_neg (fun h => h (e1.mpr c2)) (ev_now ?_)
        simp [c1, c2]
      · refine ev_pos (show ¬ S p = (⟨#[]⟩ : ByteArray) from fun h => c2 (e1.mp h)) (ev_pos (szs _ _ (by (try simp); omega)) (ev_pos (szs _ _ (by (try simp); omega)) (ev_now ?_)))
        simp [c1, c2]
theorem rtext13 {c : CondL} (hw : Dg 256 c.2.2.1) (hp : Dg 256 c.2.2.2) (lw : c.2.2.1.length ≤ 1000) (lp : c.2.2.2.length ≤ 1000) : Ev (numeraryref13_Text.f (cS c)) (S (textL c)) := by
  have go : ∀ {A : ByteArray} {pre : List Nat}, A = S pre → pre.length ≤ 2 → _ := fun {A pre} hA hl => rt_tail (A := A) (pre := pre) (n := c.2.1) hA hw hp lw lp hl
  refine ev_eq numeraryref13_Text.f_eq ?_
  unfold textL preL
  by_cases h1 : c.1 = 1
  · rw [if_pos h1]; exact ev_pos h1 (go rfl (by decide))
  refine ev_neg h1 ?_
  rw [if_neg h1]
  by_cases h2 : c.1 = 2
  · rw [if_pos h2]; exact ev_pos h2 (go rfl (by decide))
  refine ev_neg h2 ?_
  rw [if_neg h2]
  by_cases h3 : c.1 = 3
  · rw [if_pos h3]; exact ev_pos h3 (go rfl (by decide))
  refine ev_neg h3 ?_
  rw [if_neg h3]
  by_cases h4 : c.1 = 4
  · rw [if_pos h4]; exact ev_pos h4 (go rfl (by decide))
  refine ev_neg h4 ?_
  rw [if_neg h4]
  by_cases h5 : c.1 = 5
  · rw [if_pos h5]; exact ev_pos h5 (go rfl (by decide))
  refine ev_neg h5 ?_
  rw [if_neg h5]
  by_cases h6 : c.1 = 6
  · rw [if_pos h6]; exact ev_pos h6 (go rfl (by decide))
  refine ev_neg h6 ?_
  rw [if_neg h6]
  exact go rfl (by decide)
end Go.Proofs.YtlnbcpcnpofnoaaGreatDoor.F

/- Conditions: there and back; whether a value meets one. -/
namespace Go.Proofs.YtlnbcpcnpofnoaaGreatDoor.F
open Go Go.Proofs.YtlnbcpcnpofnoaaGreatDoor.E
set_option linter.unusedVariables false
set_option linter.unusedSimpArgs false
/-- A condition that may be. -/
structure WF (c : CondL) : Prop where
  lo : 1 ≤ c.1
  hi : c.1 ≤ 6
  w : isD c.2.2.1
  p : isD c.2.2.2
  lw : c.2.2.1.length ≤ 30
  lp : c.2.2.2.length ≤ 30
  tw : trimL c.2.2.1 = c.2.2.1
  tp : trimR c.2.2.2 = c.2.2.2
  n : c.2.1 = true → c.2.2.1 ++ c.2.2.2 ≠ []
theorem opR_range (l : List Nat) (h : (opR l).2.2 = true) : 1 ≤ (opR l).1 ∧ (opR l).1 ≤ 6 := by
  revert h
  unfold opR
  (repeat' split) <;> intro h <;> first | (simp; done) | (simp at h; done)
theorem condR_WF {l : List Nat} (hl : Dg 256 l) {c : CondL} (h : condR l = some c) : WF c := by
  obtain ⟨_, _, h1, h2, h3, h4, h5, h6, h7, h8, h9⟩ := condR_dg hl h
  obtain ⟨o1, o2⟩ := opR_range l h9
  exact ⟨by rw [h8]; exact o1, by rw [h8]; exact o2, h1, h2, h3, h4, h5, h6, h7⟩
theorem opR_pre {o : Int} (h1 : 1 ≤ o) (h6 : o ≤ 6) {x : Nat} {r : List Nat} (h61 : x ≠ 61) (h62 : x ≠ 62) : opR (preL o ++ x :: r) = (o, x :: r, true) := by
  have : o = 1 ∨ o = 2 ∨ o = 3 ∨ o = 4 ∨ o = 5 ∨ o = 6 := by omega
  rcases this with rfl | rfl | rfl | rfl | rfl | rfl <;> simp [opR, preL, h61, h62]
theorem cond_back {c : CondL} (h : WF c) : condR (textL c) = some c := by
  obtain ⟨o, n, w, p⟩ := c
  obtain ⟨h1, h2, h3, h4, h5, h6, h7, h8, h9⟩ := h
  simp only at h1 h2 h3 h4 h5 h6 h7 h8 h9
  obtain ⟨W, hW⟩ : ∃ W, W = (if w = [] then [48] else []) ++ w := ⟨_, rfl⟩
  have w1 : isD W ∧ W ≠ [] ∧ W.length ≤ 30 ∧ trimL W = w := by
    rw [hW]
    by_cases c : w = []
    · subst c; rw [if_pos rfl]; exact ⟨isD.cons (by decide) isD.nil, by simp, by decide, rfl⟩
    · rw [if_neg c]; exact ⟨h3, c, h5, h7⟩
  obtain ⟨w1, w2, w3, w4⟩ := w1
  obtain ⟨y, Y, hY⟩ : ∃ y Y, W = y :: Y := by cases W with | nil => exact absurd rfl w2 | cons y Y => exact ⟨y, Y, rfl⟩
  have hy : 48 ≤ y ∧ y ≤ 57 := w1 y (by rw [hY]; exact List.mem_cons_self)
  obtain ⟨T, hT⟩ : ∃ T, T = W ++ (if p = [] then [] else 46 :: p) := ⟨_, rfl⟩
  have ht : textL (o, n, w, p) = preL o ++ ((if n = true then [45] else []) ++ T) := by
    unfold textL; rw [hT, hW]; simp
  have hcut : cutD T = (W, p, decide (p ≠ [])) := by
    have no : 46 ∉ W := fun hm => by have := w1 46 hm; omega
    rw [hT]
    by_cases c : p = []
    · subst c; rw [if_pos rfl, List.append_nil, cutD_no no]; rfl
    · rw [if_neg c, cutD_at no, decide_eq_true c]
  have hparts : partsR o n (cutD T) = some (o, n, w, p) := by
    rw [hcut]; unfold partsR
    rw [if_pos (show okRun W ∧ (decide (p ≠ []) = true → okRun p) from ⟨⟨w1, w2, w3⟩, fun hp => ⟨h4, of_decide_eq_true hp, h6⟩⟩)]
    rw [w4, h8]
    cases n with
    | false => rfl
    | true => rw [decide_eq_true (h9 rfl)]; rfl
  have hTy : T = y :: (Y ++ (if p = [] then [] else 46 :: p)) := by rw [hT, hY]; rfl
  have hop : opR (textL (o, n, w, p)) = (o, (if n = true then [45] else []) ++ T, true) := by
    rw [ht]
    cases n with
    | true => exact opR_pre h1 h2 (by decide) (by decide)
    | false =>
      rw [if_neg (by simp), List.nil_append, hTy]
      exact opR_pre h1 h2 (by omega) (by omega)
  unfold condR
  rw [hop]
  simp only [if_true]
  unfold restR
  cases n with
  | true =>
    have h' : ([45] ++ T).take 1 = [45] := rfl
    rw [if_pos rfl, if_pos h', decide_eq_true h']
    exact hparts
  | false =>
    rw [if_neg (by simp), List.nil_append]
    have hne : T.take 1 ≠ [45] := by rw [hTy]; simp; omega
    rw [if_neg hne, decide_eq_false hne]
    exact hparts
/-! ### numbers -/
theorem number13 {c : CondL} (h : WF c) : ∃ r, RQ r (num (c.2.2.1 ++ c.2.2.2)) (10 ^ c.2.2.2.length) 100 ∧ Ev (cond_Cond_number.f (cS c)) r := by
  obtain ⟨o, n, w, p⟩ := c
  obtain ⟨h1, h2, h3, h4, h5, h6, h7, h8, h9⟩ := h
  simp only at h1 h2 h3 h4 h5 h6 h7 h8 h9 ⊢
  have hD : isD ([48] ++ w ++ p) := (isD.app (isD.app (isD.cons (by decide) isD.nil) h3) h4)
  have hlen : ([48] ++ w ++ p).length = 1 + w.length + p.length := by simp; omega
  have hnum : num ([48] ++ w ++ p) = num (w ++ p) := by
    rw [List.append_assoc]; show num (48 :: (w ++ p)) = _
    rw [num_cons]; simp
  have hpar := parse_ok hD (by simp) (by omega)
  rw [hnum] at hpar
  have l1 : ln (num (w ++ p)) ≤ 100 := by
    have h1 := num_lt (isD.app h3 h4)
    have h2 : (w ++ p).length ≤ 60 := by simp; omega
    exact (dg_len b32 _ _).mpr (Nat.lt_of_lt_of_le h1 (Nat.le_trans (Nat.pow_le_pow_right (by decide) h2) (Nat.le_trans (Nat.pow_le_pow_left (by decide) 60) (Nat.pow_le_pow_right (by decide) (by decide)))))
  have l2 := ln_pow10 p.length
  obtain ⟨r, hr, hv⟩ := ratio_of (a := num (w ++ p)) (b := 10 ^ p.length) (c := 100) (Nat.pow_pos (by decide)) (by decide) l1 (by omega)
  refine ⟨r, hr, ?_⟩
  show Ev (cond_Cond_number.f (o, n, S w, S p)) r
  refine ev_eq cond_Cond_number.f_eq ?_
  rw [e48]
  simp only [S_app]
  rw [S_size, S_size, S_size, S_size]
  refine ev_pos (show [48].length + w.length ≤ 9223372036854775807 by simp; omega) (ev_pos (show ([48] ++ w).length + p.length ≤ 9223372036854775807 by simp; omega) ?_)
  exact Ev.bind hpar (Ev.bind (ten (by omega)) (Ev.bind hv (ev_now rfl)))
theorem rdigits13 {l : List Nat} (h : isD l) (hb : l.length ≤ 1000) : Ev (numeraryref13_digits.f (S l)) (D (num l)) := by
  have e0 : IntKind.i64.wrap (((S l).size : Int) - 1) = (l.length : Int) - 1 := by rw [S_size, wrap_id (by omega) (by omega)]
  refine ev_eq numeraryref13_digits.f_eq ?_
  rw [e0]
  have ha := radd_val (a := l.reverse.map (· - 48)) (b := []) (fun x hx => by
    obtain ⟨y, hy, rfl⟩ := List.mem_map.mp hx
    have := h y (List.mem_reverse.mp hy)
    omega) (Dg.nil 10) (by simp; omega) (by simp)
  rw [show val 10 (l.reverse.map (· - 48)) + val 10 [] = num l from Nat.add_zero _] at ha
  have loop : ∀ k, k ≤ l.length → Ev (numeraryref13_digits.l0 (S l) (nl ((l.drop k).reverse.map (· - 48))) ((k : Int) - 1)) (D (num l)) := by
    intro k
    induction k with
    | zero =>
      intro _
      refine ev_loop numeraryref13_digits.l0_eq numeraryref13_digits.l0_step (ev_neg (by omega) ?_)
      rw [List.drop_zero]
      exact Ev.bind ha (ev_now rfl)
    | succ k ih =>
      intro hk
      have hm : gd l k ∈ l := by unfold gd; rw [List.getD_eq_getElem?_getD, List.getElem?_eq_getElem (by omega)]; exact List.getElem_mem _
      have hd := h _ hm
      have e : l.drop k = gd l k :: l.drop (k + 1) := drop_cons _ k (by omega)
      have e1 : ((k + 1 : Nat) : Int) - 1 = (k : Int) := by omega
      rw [e1]
      refine ev_loop numeraryref13_digits.l0_eq numeraryref13_digits.l0_step (ev_pos (by omega) (ev_pos (by omega) (ev_pos (by rw [S_size]; omega) ?_)))
      rw [byteAt_S h.dg]
      have e2 : IntKind.i64.wrap (IntKind.i64.wrap ((gd l k : Nat) : Int) - 48) = ((gd l k - 48 : Nat) : Int) := by
        rw [wrap_id (x := ((gd l k : Nat) : Int)) (by omega) (by omega), wrap_id (by omega) (by omega)]; omega
      have e3 : IntKind.i64.wrap ((k : Int) - 1) = (k : Int) - 1 := wrap_id (by omega) (by omega)
      rw [e2, e3]
      have e4 : nl ((l.drop k).reverse.map (· - 48)) = nl ((l.drop (k + 1)).reverse.map (· - 48)) ++ [((gd l k - 48 : Nat) : Int)] := by
        rw [e, List.reverse_cons, List.map_append, nl_append]; rfl
      have := ih (by omega)
      rw [e4] at this
      exact ev_pos (by rw [nl_length]; simp; omega) this
  have := loop l.length (Nat.le_refl _)
  rw [List.drop_length] at this
  exact this
theorem rcmpAt {a b j k : Nat} (ha : dn a ≤ 100000) (hb : dn b ≤ 100000) (hj : j ≤ 100000) (hk : k ≤ 100000) : Ev (numeraryref07_CmpAt.f (D a) (j : Int) (D b) (k : Int)) (cmpI (a * 10 ^ k) (b * 10 ^ j)) := by
  have t1 := dn_ten a (k - j)
  have t2 := dn_ten b (j - k)
  have w1 : IntKind.i64.wrap ((k : Int) - (j : Int)) = (k : Int) - (j : Int) := wrap_id (by omega) (by omega)
  have w2 : IntKind.i64.wrap ((j : Int) - (k : Int)) = (j : Int) - (k : Int) := wrap_id (by omega) (by omega)
  refine ev_eq numeraryref07_CmpAt.f_eq ?_
  rw [w1, w2]
  have key : cmpI (a * 10 ^ (k - j)) (b * 10 ^ (j - k)) = cmpI (a * 10 ^ k) (b * 10 ^ j) := by
    refine cmp_both (s := 10 ^ min j k) (t := 1) (Nat.pow_pos (by decide)) (by decide) ?_ ?_
    · rw [Nat.mul_one, Nat.mul_assoc, ← Nat.pow_add]; congr 2; omega
    · rw [Nat.mul_one, Nat.mul_assoc, ← Nat.pow_add]; congr 2; omega
  rw [← key]
  refine Ev.bind (a := D (a * 10 ^ (k - j))) ?_ (Ev.bind (a := D (b * 10 ^ (j - k))) ?_ (Ev.bind (rcmp_D (by omega) (by omega)) (ev_now rfl)))
  · by_cases c : j ≤ k
    · have := rtens_up (n := a) (k := k - j) (by omega) (by omega)
      rw [show ((k - j : Nat) : Int) = (k : Int) - (j : Int) by omega] at this
      exact this
    · rw [show k - j = 0 by omega, Nat.pow_zero, Nat.mul_one]
      exact rtens_low (by omega)
  · by_cases c : k ≤ j
    · have := rtens_up (n := b) (k := j - k) (by omega) (by omega)
      rw [show ((j - k : Nat) : Int) = (j : Int) - (k : Int) by omega] at this
      exact this
    · rw [show j - k = 0 by omega, Nat.pow_zero, Nat.mul_one]
      exact rtens_low (by omega)
end Go.Proofs.YtlnbcpcnpofnoaaGreatDoor.F

/- Conditions: whether a value meets one. -/
namespace Go.Proofs.YtlnbcpcnpofnoaaGreatDoor.F
open Go Go.Proofs.YtlnbcpcnpofnoaaGreatDoor.E
set_option linter.unusedVariables false
set_option linter.unusedSimpArgs false
/-- Is a value, n over d (below 0 if ng), below a condition's number, m over ten to k (below 0 if cn), the same, or above it? -/
def cmpV (ng cn : Bool) (n d m k : Nat) : Int :=
  if ng = true then (if cn = true then cmpI (m * d) (n * 10 ^ k) else -1) else if cn = true then 1 else cmpI (n * 10 ^ k) (m * d)
def rel (o x : Int) : Bool :=
  if o = 1 then decide (x < 0) else if o = 2 then decide (x ≤ 0) else if o = 3 then decide (x > 0) else if o = 4 then decide (x ≥ 0) else if o = 5 then decide (x = 0) else decide (x ≠ 0)
theorem rel_rd {o x : Int} (h1 : 1 ≤ o) (h6 : o ≤ 6) : rdO [false, decide (x < 0), decide (x ≤ 0), decide (x > 0), decide (x ≥ 0), decide (x = 0), decide (x ≠ 0)] o = rel o x := by
  have : o = 1 ∨ o = 2 ∨ o = 3 ∨ o = 4 ∨ o = 5 ∨ o = 6 := by omega
  rcases this with rfl | rfl | rfl | rfl | rfl | rfl <;> rfl
theorem rel_ite {o x : Int} {r : Bool} (h : r = rel o x) : Ev (if o = 1 then (M.ret (decide (x < 0))) else (if o = 2 then (M.ret (decide (x ≤ 0))) else (if o = 3 then (M.ret (decide (x > 0))) else (if o = 4 then (M.ret (decide (x ≥ 0))) else (if o = 5 then (M.ret (decide (x = 0))) else (M.ret (decide (x ≠ 0)))))))) r := by
  subst h
  unfold rel
  by_cases h1 : o = 1
  · rw [if_pos h1, if_pos h1]; exact ev_now rfl
  rw [if_neg h1, if_neg h1]
  by_cases h2 : o = 2
  · rw [if_pos h2, if_pos h2]; exact ev_now rfl
  rw [if_neg h2, if_neg h2]
  by_cases h3 : o = 3
  · rw [if_pos h3, if_pos h3]; exact ev_now rfl
  rw [if_neg h3, if_neg h3]
  by_cases h4 : o = 4
  · rw [if_pos h4, if_pos h4]; exact ev_now rfl
  rw [if_neg h4, if_neg h4]
  by_cases h5 : o = 5
  · rw [if_pos h5, if_pos h5]; exact ev_now rfl
  rw [if_neg h5, if_neg h5]
  exact ev_now rfl
theorem rel_one {o : Int} {r : Bool} (h : r = rel o 1) : Ev (if o = 1 then (M.ret (decide ((1 : Nat) < 0))) else (if o = 2 then (M.ret (decide ((1 : Nat) ≤ 0))) else (if o = 3 then (M.ret (decide ((1 : Nat) > 0))) else (if o = 4 then (M.ret (decide ((1 : Nat) ≥ 0))) else (if o = 5 then (M.ret (decide ((1 : Nat) = 0))) else (M.ret (decide ((1 : Nat) ≠ 0)))))))) r := by
  have := rel_ite h
  exact this
theorem text_WF {c : CondL} (h : WF c) : Ev (cond_Cond_Text.f (cS c)) (S (textL c), true) := by
  have := text13 h.w.dg h.p.dg (by have := h.lw; omega) (by have := h.lp; omega)
  rwa [if_pos ⟨⟨h.lo, h.hi⟩, cond_back h⟩] at this
theorem compared13 {c : CondL} (h : WF c) {cl m x : Int} {sg : Bool} {r : List Int × List Int} {n d : Nat} (hr : RQ r n d 100) (hd : 0 < d) :
    Ev (cond_Cond_compared.f (cS c) (cl, sg, m, x) r) (cmpV (sg && decide (cl = 1)) c.2.1 n d (num (c.2.2.1 ++ c.2.2.2)) c.2.2.2.length) := by
  obtain ⟨q, hq, hv⟩ := number13 h
  have hp : 0 < 10 ^ c.2.2.2.length := Nat.pow_pos (by decide)
  have h1 := ratio_cmp hq hr hp hd (by decide) (by decide)
  have h2 := ratio_cmp hr hq hd hp (by decide) (by decide)
  generalize hZ : cmpV (sg && decide (cl = 1)) c.2.1 n d (num (c.2.2.1 ++ c.2.2.2)) c.2.2.2.length = Z
  unfold cmpV at hZ
  obtain ⟨o, cn, w, p⟩ := c
  simp only at hZ h1 h2
  refine ev_eq cond_Cond_compared.f_eq ?_
  cases sg with
  | false =>
    refine ev_neg (by simp) ?_
    cases cn with
    | true => exact ev_pos rfl (ev_now (by rw [← hZ]; simp))
    | false => exact ev_neg (show ¬ false = true by simp) (Ev.bind hv (Ev.bind h2 (ev_now (by rw [← hZ]; simp))))
  | true =>
    refine ev_pos rfl ?_
    by_cases c1 : cl = 1
    · refine ev_pos c1 ?_
      cases cn with
      | true => exact ev_pos rfl (Ev.bind hv (Ev.bind h1 (ev_now (by rw [← hZ]; simp [c1]))))
      | false => exact ev_neg (show ¬ false = true by simp) (ev_pos c1 (ev_now (by rw [← hZ]; simp [c1])))
    · refine ev_neg c1 ?_
      cases cn with
      | true => exact ev_neg c1 (ev_pos rfl (ev_now (by rw [← hZ]; simp [c1])))
      | false => exact ev_neg c1 (ev_neg (show ¬ false = true by simp) (Ev.bind hv (Ev.bind h2 (ev_now (by rw [← hZ]; simp [c1])))))
theorem holds_no {c : CondL} {s f : Nat} {t : ByteArray × Bool} (ht : Ev (cond_Cond_Text.f (cS c)) t) : Ev (cond_Cond_Holds.f (cS c) (V s 2047 f)) false :=
  ev_eq cond_Cond_Holds.f_eq (Ev.bind value_no.1 (Ev.bind ht (ev_pos rfl (ev_now rfl))))
theorem holds_bad {c : CondS} {v : Int × Bool × Int × Int} {r : (List Int × List Int) × Bool} {t : ByteArray} (hv : Ev (ratio_Value.f v) r) (ht : Ev (cond_Cond_Text.f c) (t, false)) : Ev (cond_Cond_Holds.f c v) false := by
  refine ev_eq cond_Cond_Holds.f_eq (Ev.bind hv (Ev.bind ht ?_))
  cases h : r.2 with
  | false => exact ev_pos (by simp [h]) (ev_now rfl)
  | true => exact ev_neg (by simp [h]) (ev_pos rfl (ev_now rfl))
theorem rholds_no {c : CondS} {s f : Nat} (hs : s ≤ 1) (hf : f < 4503599627370496) : Ev (numeraryref13_Holds.f c ((W s 2047 f : Nat) : Int)) false :=
  ev_eq numeraryref13_Holds.f_eq (Ev.bind (ref_of hs (by decide) hf) (ev_pos value_no.2.1 (ev_now rfl)))
theorem holds13 {s e f : Nat} (hs : s ≤ 1) (he : e < 2047) (hf : f < 4503599627370496) : ∃ (n d : Nat) (ng : Bool), 0 < d ∧ (∀ J : Nat, J = 1074 → n * 2 ^ J = (if e = 0 then f else (f + 4503599627370496) * 2 ^ (e - 1)) * d) ∧ (V s e f).1 ≤ 1 ∧ ng = (decide (s = 1) && decide (n ≠ 0)) ∧
    ∀ c : CondL, WF c → Ev (cond_Cond_Holds.f (cS c) (V s e f)) (rel c.1 (cmpV ng c.2.1 n d (num (c.2.2.1 ++ c.2.2.2)) c.2.2.2.length)) ∧
      Ev (numeraryref13_Holds.f (cS c) ((W s e f : Nat) : Int)) (rel c.1 (cmpV ng c.2.1 n d (num (c.2.2.1 ++ c.2.2.2)) c.2.2.2.length)) := by
  have ho := ref_of hs (show e < 2048 by omega) hf
  obtain ⟨cl, m, x, r, n, d, p, pk, hV, hcl, hn0, _, hd, hr, _, _, hval, hdec, hpk, hdp, heq, _, _, _, hJ⟩ := val64N hs he hf
  rw [hV] at ho ⊢
  rw [hV] at hval
  have hng : (decide (s = 1) && decide (cl = 1)) = (decide (s = 1) && decide (n ≠ 0)) := by
    congr 1
    refine decide_eq_decide.mpr ⟨fun h h0 => ?_, fun h => ?_⟩
    · have := hn0.mpr h0; omega
    · rcases hcl with h1 | h1
      · exact absurd (hn0.mp h1) h
      · exact h1
  refine ⟨n, d, decide (s = 1) && decide (cl = 1), hd, hJ, by rcases hcl with h | h <;> simp [h], hng, fun c hc => ⟨?_, ?_⟩⟩
  · refine ev_eq cond_Cond_Holds.f_eq (Ev.bind hval (Ev.bind (text_WF hc) (ev_neg (by simp) (ev_neg (by simp) (Ev.bind (compared13 hc hr hd) ?_)))))
    have h1 := hc.lo
    have h6 := hc.hi
    refine ev_pos (show 0 ≤ c.1 by omega) (ev_pos (show c.1 < 7 by omega) (ev_now ?_))
    exact rel_rd h1 h6
  · have hD : isD (c.2.2.1 ++ c.2.2.2) := hc.w.app hc.p
    have hlen : (c.2.2.1 ++ c.2.2.2).length ≤ 60 := by have := hc.lw; have := hc.lp; simp; omega
    have hdig := rdigits13 hD (by omega)
    have hdn : dn (num (c.2.2.1 ++ c.2.2.2)) ≤ 60 := Nat.le_trans ((dg_len b10 _ _).mpr (num_lt hD)) hlen
    have hlp := hc.lp
    have hcmp := rcmpAt (a := p) (b := num (c.2.2.1 ++ c.2.2.2)) (j := pk) (k := c.2.2.2.length) (by omega) (by omega) (by omega) (by omega)
    have hkey : cmpI (p * 10 ^ c.2.2.2.length) (num (c.2.2.1 ++ c.2.2.2) * 10 ^ pk) = cmpI (n * 10 ^ c.2.2.2.length) (num (c.2.2.1 ++ c.2.2.2) * d) := by
      refine cmp_both (s := d) (t := 10 ^ pk) hd (Nat.pow_pos (by decide)) ?_ ?_
      · rw [Nat.mul_right_comm, heq, Nat.mul_right_comm]
      · rw [Nat.mul_right_comm]
    rw [hkey] at hcmp
    have hneg := cmpI_neg (n * 10 ^ c.2.2.2.length) (num (c.2.2.1 ++ c.2.2.2) * d)
    generalize hZ : cmpV (decide (s = 1) && decide (cl = 1)) c.2.1 n d (num (c.2.2.1 ++ c.2.2.2)) c.2.2.2.length = Z
    unfold cmpV at hZ
    obtain ⟨o, cn, w, q⟩ := c
    simp only at hdig hcmp hneg hlen hZ
    refine ev_eq numeraryref13_Holds.f_eq (Ev.bind ho ?_)
    refine ev_neg (show ¬ cl > 1 by rcases hcl with h | h <;> omega) (Ev.bind hdec ?_)
    refine ev_pos (show (S w).size + (S q).size ≤ 9223372036854775807 by rw [S_size, S_size, ← List.length_append]; omega) ?_
    refine Ev.bind (show Ev (numeraryref13_digits.f (S w ++ S q)) _ by rw [S_app]; exact hdig) (Ev.bind (show Ev (numeraryref07_CmpAt.f (D p) (pk : Int) _ (((S q).size : Nat) : Int)) _ by rw [S_size]; exact hcmp) ?_)
    show Ev _ (rel o Z)
    have fin : ∀ x : Int, x = Z → rel o Z = rel o x := fun x h => by rw [h]
    by_cases c0 : s = 1
    · refine ev_pos (show decide (s = 1) = true from decide_eq_true c0) ?_
      by_cases c1 : cl = 1
      · refine ev_pos c1 ?_
        cases cn with
        | true =>
          refine ev_pos rfl (ev_pos c1 (ev_neg (show ¬ (!true) = true by simp) (ev_neg (show ¬ ¬ (cl = 1) from fun h => h c1) ?_)))
          exact rel_ite (fin _ (by rw [← hZ, hneg]; simp [c0, c1]))
        | false =>
          refine ev_neg (show ¬ false = true by simp) (ev_pos c1 (ev_pos (show (!false) = true by simp) (ev_neg (show ¬ ¬ (cl = 1) from fun h => h c1) ?_)))
          exact rel_ite (fin _ (by rw [← hZ]; simp [c0, c1]))
      · refine ev_neg c1 (ev_neg c1 (ev_pos (show ¬ (cl = 1) from c1) ?_))
        cases cn with
        | true => exact ev_pos rfl (rel_one (fin _ (by rw [← hZ]; simp [c1])))
        | false => exact ev_neg (show ¬ false = true by simp) (rel_ite (fin _ (by rw [← hZ]; simp [c1])))
    · refine ev_neg (show ¬ decide (s = 1) = true by simpa using c0) ?_
      cases cn with
      | true => exact ev_pos rfl (rel_one (fin _ (by rw [← hZ]; simp [c0])))
      | false => exact ev_neg (show ¬ false = true by simp) (rel_ite (fin _ (by rw [← hZ]; simp [c0])))
end Go.Proofs.YtlnbcpcnpofnoaaGreatDoor.F

/- Layer 13: what the laws' own helpers come to. -/
namespace Go.Proofs.YtlnbcpcnpofnoaaGreatDoor.F
open Go Go.Proofs.YtlnbcpcnpofnoaaGreatDoor.E
set_option linter.unusedVariables false
set_option linter.unusedSimpArgs false
theorem of13 (c : CondS) : Ev (numerarylaw13_of.f c) c := ev_eq numerarylaw13_of.f_eq (ev_now rfl)
theorem holds_pow {e : Nat} (h0 : 0 < e) (he : e < 2047) : ∃ n d : Nat, 0 < d ∧ (e + 51 = 1074 → n = d) ∧ (e + 52 = 1074 → n * 2 = d) ∧
    ∀ c : CondL, WF c → (n ≠ 0 → c.2.1 = true → Ev (cond_Cond_Holds.f (cS c) (V 1 e 0)) (rel c.1 (cmpI (num (c.2.2.1 ++ c.2.2.2) * d) (n * 10 ^ c.2.2.2.length)))) := by
  obtain ⟨n, d, ng, hd, hJ, _, hng, hh⟩ := holds13 (s := 1) (e := e) (f := 0) (by decide) he (by decide)
  obtain ⟨J, hJ2⟩ : ∃ J : Nat, J = 1074 := ⟨_, rfl⟩
  have h := hJ J hJ2
  rw [if_neg (by omega), Nat.zero_add, show (4503599627370496 : Nat) = 2 ^ 52 by decide, ← Nat.pow_add] at h
  refine ⟨n, d, hd, fun h1 => ?_, fun h1 => ?_, fun c hc hn hneg => ?_⟩
  · rw [show 52 + (e - 1) = J by omega, Nat.mul_comm] at h
    exact Nat.eq_of_mul_eq_mul_left (Nat.pow_pos (by decide)) h
  · rw [show J = (52 + (e - 1)) + 1 by omega, Nat.pow_succ, Nat.mul_comm (2 ^ (52 + (e - 1))) 2, ← Nat.mul_assoc, Nat.mul_comm (n * 2)] at h
    exact Nat.eq_of_mul_eq_mul_left (Nat.pow_pos (by decide)) h
  · have := (hh c hc).1
    rw [hng] at this
    unfold cmpV at this
    rw [if_pos (by simp [hn]), if_pos hneg] at this
    exact this
theorem wakes13 : Ev (numerarylaw13_wakes.f ()) true := by
  have c1 : condR [60, 45, 48, 46, 53, 48] = some (1, true, [], [53]) := by decide
  have c2 : condR [61, 60, 49] = none := by decide
  have wf : WF (1, true, [], [53]) := ⟨by decide, by decide, by unfold isD; decide, by unfold isD; decide, by decide, by decide, rfl, rfl, fun _ => by simp⟩
  have p1 := parse13 (l := [60, 45, 48, 46, 53, 48]) (by unfold Dg; decide) (by decide)
  have p2 := parse13 (l := [61, 60, 49]) (by unfold Dg; decide) (by decide)
  rw [c1] at p1
  rw [c2] at p2
  have t1 := text_WF wf
  rw [show textL (1, true, [], [53]) = [60, 45, 48, 46, 53] by decide] at t1
  have b1 := bits_of (s := 1) (e := 1023) (f := 0) (by decide) (by decide) (by decide)
  have b2 := bits_of (s := 1) (e := 1022) (f := 0) (by decide) (by decide) (by decide)
  rw [show W 1 1023 0 = 13830554455654793216 by decide] at b1
  rw [show W 1 1022 0 = 13826050856027422720 by decide] at b2
  obtain ⟨n, d, hd, q1, _, hh⟩ := holds_pow (e := 1023) (by decide) (by decide)
  obtain ⟨n', d', hd', _, q2, hh'⟩ := holds_pow (e := 1022) (by decide) (by decide)
  have q1 := q1 (by decide)
  have q2 := q2 (by decide)
  have h1 := hh _ wf (by omega) rfl
  have h2 := hh' _ wf (by omega) rfl
  have e1 : num (([] : List Nat) ++ [53]) = 5 := by decide
  simp only [e1] at h1 h2
  have e3 : cmpI (5 * d) (n * 10 ^ [53].length) = -1 := by
    unfold cmpI
    rw [if_pos]
    rw [show (10 : Nat) ^ [53].length = 10 by decide]; omega
  have e4 : cmpI (5 * d') (n' * 10 ^ [53].length) = 0 := by
    rw [cmpI_eq0, show (10 : Nat) ^ [53].length = 10 by decide]; omega
  rw [e3] at h1
  rw [e4] at h2
  refine ev_eq numerarylaw13_wakes.f_eq (Ev.bind p1 (Ev.bind t1 (Ev.bind p2 ?_)))
  refine ev_pos rfl (ev_pos ⟨rfl, rfl, rfl, rfl⟩ (ev_pos rfl (ev_pos rfl (ev_pos rfl (Ev.bind b1 (Ev.bind h1 (ev_pos rfl (Ev.bind b2 (Ev.bind h2 (ev_now rfl))))))))))
end Go.Proofs.YtlnbcpcnpofnoaaGreatDoor.F

/- The condition of every text, and its own text, are the document's, or there is none. -/
namespace Go.Proofs.YtlnbcpcnpofnoaaGreatDoor.Pure
open Go Go.Proofs.YtlnbcpcnpofnoaaGreatDoor.E Go.Proofs.YtlnbcpcnpofnoaaGreatDoor.F
set_option linter.unusedVariables false
set_option linter.unusedSimpArgs false
theorem cut_S (l : List Nat) (k : Nat) {K : Int} (hK : K = (k : Int)) : 0 ≤ mnI ((S l).size : Int) K ∧ mnI ((S l).size : Int) K ≤ ((S l).size : Int) ∧ (S l).extract 0 (mnI ((S l).size : Int) K).toNat = S (l.take k) := by
  subst hK
  rw [S_size, mnI_min, Int.toNat_natCast, S_ext, List.drop_zero]
  refine ⟨by omega, by omega, ?_⟩
  congr 1
  rcases Nat.le_total l.length k with h | h
  · rw [Nat.min_eq_left h, List.take_length, List.take_of_length_le h]
  · rw [Nat.min_eq_right h]
theorem text_none : Ev (cond_Cond_Text.f ((0, false, S [], S []) : CondS)) (S [], false) := by
  have := text13 (c := (0, false, [], [])) (Dg.nil _) (Dg.nil _) (by simp) (by simp)
  rwa [if_neg (fun h => by have := h.1.1; simp at this)] at this
theorem CondParses (a0 : ByteArray) (s0 : a0.size ≤ 140737488351232) : Ev (numerarylaw13_CondParses.f a0) true := by
  obtain ⟨l, hl, rfl⟩ := S_of a0
  obtain ⟨q1, q2, q3⟩ := cut_S l 80 (K := 80) rfl
  have ht : Dg 256 (l.take 80) := fun x hx => hl x (List.mem_of_mem_take hx)
  have hlen : (l.take 80).length ≤ 80 := by simp; omega
  generalize l.take 80 = t at *
  refine ev_eq numerarylaw13_CondParses.f_eq (ev_pos q1 (ev_pos q2 ?_))
  rw [q3]
  refine Ev.bind (parse13 ht (by omega)) (Ev.bind (rparse13 ht (by omega)) (ev_neg (by simp) (Ev.bind (of13 _) (ev_neg (fun h => h ⟨rfl, rfl, rfl, rfl⟩) ?_))))
  cases h : condR t with
  | none => exact Ev.bind text_none (Ev.bind wakes13 (ev_pos rfl (ev_pos rfl (ev_pos rfl (ev_now rfl)))))
  | some c =>
    have wf := condR_WF ht h
    have hr := rtext13 (c := c) wf.w.dg wf.p.dg (by have := wf.lw; omega) (by have := wf.lp; omega)
    exact Ev.bind (text_WF wf) (Ev.bind wakes13 (ev_pos rfl (ev_pos rfl (ev_neg (by simp [oS]) (Ev.bind hr (ev_now (decide_eq_true rfl)))))))
end Go.Proofs.YtlnbcpcnpofnoaaGreatDoor.Pure

/- Layer 13: numbers that are written, sign by sign; conditions in each way. -/
namespace Go.Proofs.YtlnbcpcnpofnoaaGreatDoor.F
open Go Go.Proofs.YtlnbcpcnpofnoaaGreatDoor.E
set_option linter.unusedVariables false
set_option linter.unusedSimpArgs false
theorem decs0_step {n : Nat} (h : 0 < n) : decs0 n = decs0 (n / 10) ++ [48 + n % 10] := by
  unfold decs0
  rw [dg_pos b10 h, List.reverse_cons, List.map_append]
  rfl
theorem decs0_trimL (n : Nat) : trimL (decs0 n) = decs0 n := by
  rcases Nat.eq_zero_or_pos n with rfl | h
  · rfl
  · obtain ⟨c, l, h1, h2, _⟩ := decs0_head h
    unfold trimL
    rw [h1, List.dropWhile_cons, if_neg (by simp; omega)]
theorem sign_S {n : Nat} : strOf ([IntKind.u8.wrap (48 + (IntKind.u8.wrap (((n : Nat) : Int).tmod 10)))] : List Int) = S [48 + n % 10] := by
  have e : ((n : Nat) : Int).tmod 10 = ((n % 10 : Nat) : Int) := by rw [Int.tmod_eq_emod_of_nonneg (by omega)]; omega
  have h : n % 10 < 10 := Nat.mod_lt _ (by decide)
  have w : ∀ m : Nat, m < 256 → IntKind.u8.wrap (m : Int) = (m : Int) := fun m hm => by simp [IntKind.wrap, IntKind.signed, IntKind.bits]; omega
  rw [e, w _ (by omega), show (48 : Int) + ((n % 10 : Nat) : Int) = ((48 + n % 10 : Nat) : Int) by omega, w _ (by omega)]
  exact strOf_nl [48 + n % 10]
theorem tenth {n : Nat} (h : n < 4294967296) : IntKind.u32.wrap (((n : Nat) : Int).tdiv 10) = ((n / 10 : Nat) : Int) := by
  have e : ((n : Nat) : Int).tdiv 10 = ((n / 10 : Nat) : Int) := by rw [Int.tdiv_eq_ediv_of_nonneg (by omega)]; omega
  rw [e]
  have : n / 10 < 4294967296 := by omega
  simp [IntKind.wrap, IntKind.signed, IntKind.bits]; omega
theorem dn_u32 {n : Nat} (h : n < 4294967296) : dn n ≤ 10 := by
  refine (dg_len b10 _ _).mpr ?_
  have : (4294967296 : Nat) < 10 ^ 10 := by decide
  omega
/-- A condition that is read, with a point. -/
theorem cond_read {o : Int} (h1 : 1 ≤ o) (h6 : o ≤ 6) {W P : List Nat} (hW : okRun W) (hP : okRun P) : condR (preL o ++ (W ++ 46 :: P)) = some (o, false, trimL W, trimR P) := by
  obtain ⟨y, Y, hY⟩ : ∃ y Y, W = y :: Y := by cases W with | nil => exact absurd rfl hW.2.1 | cons y Y => exact ⟨y, Y, rfl⟩
  have hy : 48 ≤ y ∧ y ≤ 57 := hW.1 y (by rw [hY]; exact List.mem_cons_self)
  have no : 46 ∉ W := fun hm => by have := hW.1 46 hm; omega
  have hop : opR (preL o ++ (W ++ 46 :: P)) = (o, W ++ 46 :: P, true) := by
    rw [hY]; exact opR_pre h1 h6 (by omega) (by omega)
  have hne : (W ++ 46 :: P).take 1 ≠ [45] := by rw [hY]; simp; omega
  unfold condR
  rw [hop]
  simp only [if_true]
  unfold restR
  rw [if_neg hne, decide_eq_false hne, cutD_at no]
  unfold partsR
  rw [if_pos (show okRun W ∧ (true = true → okRun P) from ⟨hW, fun _ => hP⟩)]
  rfl
/-- What six ways say of one number. -/
theorem rel_cases (x : Int) : (rel 1 x = true ∧ rel 2 x = true ∧ rel 3 x = false ∧ rel 4 x = false ∧ rel 5 x = false ∧ rel 6 x = true) ∨ (rel 1 x = false ∧ rel 2 x = true ∧ rel 3 x = false ∧ rel 4 x = true ∧ rel 5 x = true ∧ rel 6 x = false) ∨
    (rel 1 x = false ∧ rel 2 x = false ∧ rel 3 x = true ∧ rel 4 x = true ∧ rel 5 x = false ∧ rel 6 x = true) := by
  unfold rel
  by_cases c1 : x < 0
  · left; simp; omega
  · by_cases c2 : x = 0
    · right; left; simp; omega
    · right; right; simp; omega
/-- Of one number and one value: what each way says. -/
theorem six {s e f : Nat} (hs : s ≤ 1) (he : e < 2048) (hf : f < 4503599627370496) (n : Bool) (w p : List Nat) (hwf : ∀ o : Int, 1 ≤ o → o ≤ 6 → WF (o, n, w, p)) : ∃ H : Int → Bool, (∀ o : Int, 1 ≤ o → o ≤ 6 → Ev (cond_Cond_Holds.f (o, n, S w, S p) (V s e f)) (H o)) ∧
    (((V s e f).1 > 1 ∧ ∀ o, H o = false) ∨ ¬ (V s e f).1 > 1 ∧ ∃ x, ∀ o, H o = rel o x) := by
  by_cases c : e = 2047
  · subst c
    refine ⟨fun _ => false, fun o h1 h6 => holds_no (c := (o, n, w, p)) (text_WF (hwf o h1 h6)), .inl ⟨value_no.2.1, fun _ => rfl⟩⟩
  · obtain ⟨m, d, ng, _, _, hV, _, hh⟩ := holds13 hs (show e < 2047 by omega) hf
    refine ⟨fun o => rel o (cmpV ng n m d (num (w ++ p)) p.length), fun o h1 h6 => (hh (o, n, w, p) (hwf o h1 h6)).1, .inr ⟨by omega, _, fun o => rfl⟩⟩
end Go.Proofs.YtlnbcpcnpofnoaaGreatDoor.F

/- A condition's text, with noughts ahead and behind, is the same condition; what is at most a number and at least it is that number alone. -/
namespace Go.Proofs.YtlnbcpcnpofnoaaGreatDoor.Pure
open Go Go.Proofs.YtlnbcpcnpofnoaaGreatDoor.E Go.Proofs.YtlnbcpcnpofnoaaGreatDoor.F
set_option linter.unusedVariables false
set_option linter.unusedSimpArgs false
abbrev six0 : List ByteArray := [(⟨#[60]⟩ : ByteArray), (⟨#[60, 61]⟩ : ByteArray), (⟨#[62]⟩ : ByteArray), (⟨#[62, 61]⟩ : ByteArray), (⟨#[61]⟩ : ByteArray), (⟨#[60, 62]⟩ : ByteArray)]
theorem moves_l0 {r : Bool} {x1 x2 : Int} : ∀ (n : Nat) (q : List Nat), n < 4294967296 → dn n + q.length ≤ 100 → Ev (numerarylaw13_CondMoves.l0 x1 x2 (S (decs0 n ++ q)) 0) r → Ev (numerarylaw13_CondMoves.l0 x1 x2 (S q) (n : Int)) r := by
  intro n
  induction n using Nat.strongRecOn with
  | _ n ih =>
    intro q hn hb h
    rcases Nat.eq_zero_or_pos n with rfl | h0
    · exact h
    · refine ev_loop numerarylaw13_CondMoves.l0_eq numerarylaw13_CondMoves.l0_step ?_
      rw [sign_S, tenth hn, S_app]
      have hd : dn (n / 10) + 1 = dn n := by
        have := congrArg List.length (decs0_step h0)
        rw [List.length_append, decs0_len, decs0_len] at this
        simp at this; omega
      refine ev_pos (by omega) (ev_pos (by rw [S_size, S_size]; simp; omega) ?_)
      refine ih (n / 10) (Nat.div_lt_self h0 (by decide)) _ (by omega) (by simp; omega) ?_
      rw [decs0_step h0] at h
      simpa using h
theorem two_S {m : Nat} (h : m < 256) : strOf ([IntKind.u8.wrap (48 + ((IntKind.u8.wrap (((m : Nat) : Int).tdiv 10)).tmod 10)), IntKind.u8.wrap (48 + (((m : Nat) : Int).tmod 10))] : List Int) = S [48 + m / 10 % 10, 48 + m % 10] := by
  have e1 : ((m : Nat) : Int).tdiv 10 = ((m / 10 : Nat) : Int) := by rw [Int.tdiv_eq_ediv_of_nonneg (by omega)]; omega
  have e2 : ∀ k : Nat, ((k : Nat) : Int).tmod 10 = ((k % 10 : Nat) : Int) := fun k => by rw [Int.tmod_eq_emod_of_nonneg (by omega)]; omega
  have w : ∀ m : Nat, m < 256 → IntKind.u8.wrap (m : Int) = (m : Int) := fun m hm => by rw [u8_def]; omega
  have h1 : m / 10 % 10 < 10 := Nat.mod_lt _ (by decide)
  have h2 : m % 10 < 10 := Nat.mod_lt _ (by decide)
  rw [e1, w _ (by omega), e2, e2, show (48 : Int) + ((m / 10 % 10 : Nat) : Int) = ((48 + m / 10 % 10 : Nat) : Int) by omega, show (48 : Int) + ((m % 10 : Nat) : Int) = ((48 + m % 10 : Nat) : Int) by omega, w _ (by omega), w _ (by omega)]
  exact strOf_nl [48 + m / 10 % 10, 48 + m % 10]
theorem e000 : (⟨#[48, 48, 48]⟩ : ByteArray) = S [48, 48, 48] := rfl
theorem e00 : (⟨#[48, 48]⟩ : ByteArray) = S [48, 48] := rfl
theorem moves_fin {h1 h2 h3 h4 h5 h6 : Bool} (h : (h1 = true ∧ h2 = true ∧ h3 = false ∧ h4 = false ∧ h5 = false ∧ h6 = true) ∨ (h1 = false ∧ h2 = true ∧ h3 = false ∧ h4 = true ∧ h5 = true ∧ h6 = false) ∨ (h1 = false ∧ h2 = false ∧ h3 = true ∧ h4 = true ∧ h5 = false ∧ h6 = true) ∨ (h1 = false ∧ h2 = false ∧ h3 = false ∧ h4 = false ∧ h5 = false ∧ h6 = false))
    {x7 x9 : ByteArray} {v0 v2 v3 : Int} {v1 : Bool} : Ev (numerarylaw13_CondMoves.l1 x7 x9 v0 v1 v2 v3 false h1 h2 h3 h4 h5 h6 six0 6 6) true := by
  refine ev_loop numerarylaw13_CondMoves.l1_eq numerarylaw13_CondMoves.l1_step (ev_neg (by decide) (Ev.bind wakes13 (ev_pos rfl ?_)))
  rcases h with ⟨rfl, rfl, rfl, rfl, rfl, rfl⟩ | ⟨rfl, rfl, rfl, rfl, rfl, rfl⟩ | ⟨rfl, rfl, rfl, rfl, rfl, rfl⟩ | ⟨rfl, rfl, rfl, rfl, rfl, rfl⟩
  all_goals repeat (first | refine ev_pos (by decide) ?_ | refine ev_neg (by decide) ?_)
  all_goals exact ev_now (by decide)
theorem moves_l1 {s e f : Nat} (hs : s ≤ 1) (he : e < 2048) (hf : f < 4503599627370496) {w p : List Nat} (hw : isD w) (lw : w.length ≤ 20) (tw : trimL w = w) (hp : isD p) (lp : p.length = 2) :
    Ev (numerarylaw13_CondMoves.l1 (S w) (S p) (V s e f).1 (V s e f).2.1 (V s e f).2.2.1 (V s e f).2.2.2 false false false false false false false six0 6 0) true := by
  have dR : isD (trimR p) := fun c hc => by
    obtain ⟨k, h1, _⟩ := trimR_spec p
    exact hp c (by rw [h1]; exact List.mem_append_left _ hc)
  have lR := trimR_le p
  have hwf : ∀ o : Int, 1 ≤ o → o ≤ 6 → WF (o, false, w, trimR p) := fun o h1 h6 => ⟨h1, h6, hw, dR, by show w.length ≤ 30; omega, by show (trimR p).length ≤ 30; omega, tw, trimR_idem p, fun h => by cases h⟩
  obtain ⟨H, hH, hcase⟩ := six hs he hf false w (trimR p) hwf
  have n1 : isD [48] := isD.cons (by decide) isD.nil
  have n2 : isD [48, 48] := isD.cons (by decide) n1
  have n3 : isD [48, 48, 48] := isD.cons (by decide) n2
  have rd1 : ∀ o : Int, 1 ≤ o → o ≤ 6 → condR (preL o ++ (([48] ++ w) ++ 46 :: p)) = some (o, false, w, trimR p) := fun o h1 h6 => by
    have := cond_read h1 h6 (W := [48] ++ w) (P := p) ⟨n1.app hw, by simp, by simp; omega⟩ ⟨hp, fun e => by rw [e] at lp; simp at lp, by omega⟩
    rw [this, show trimL ([48] ++ w) = trimL w from rfl, tw]
  have rd2 : ∀ o : Int, 1 ≤ o → o ≤ 6 → condR (preL o ++ (([48, 48, 48] ++ w) ++ 46 :: (p ++ [48, 48]))) = some (o, false, w, trimR p) := fun o h1 h6 => by
    have := cond_read h1 h6 (W := [48, 48, 48] ++ w) (P := p ++ [48, 48]) ⟨n3.app hw, by simp, by simp; omega⟩ ⟨hp.app n2, by simp, by simp; omega⟩
    rw [this, show trimL ([48, 48, 48] ++ w) = trimL w from rfl, tw, show p ++ [48, 48] = p ++ List.replicate 2 48 from rfl, trimR_rep]
  have st : ∀ (i : Nat) (o : Int) (b0 b1 b2 b3 b4 b5 b6 : Bool) {r : Bool}, i < 6 → o = ((i + 1 : Nat) : Int) → (rdT .str six0 (i : Int) : ByteArray) = S (preL o) →
      Ev (numerarylaw13_CondMoves.l1 (S w) (S p) (V s e f).1 (V s e f).2.1 (V s e f).2.2.1 (V s e f).2.2.2 (if o = 0 then H o else b0) (if o = 1 then H o else b1) (if o = 2 then H o else b2) (if o = 3 then H o else b3) (if o = 4 then H o else b4) (if o = 5 then H o else b5) (if o = 6 then H o else b6) six0 6 o) r →
      Ev (numerarylaw13_CondMoves.l1 (S w) (S p) (V s e f).1 (V s e f).2.1 (V s e f).2.2.1 (V s e f).2.2.2 b0 b1 b2 b3 b4 b5 b6 six0 6 (i : Int)) r := by
    intro i o b0 b1 b2 b3 b4 b5 b6 r hi ho hpre h
    have hl := preL_len o
    have hg := preL_dg o
    have hw1 : IntKind.i64.wrap ((i : Int) + 1) = o := by rw [wrap_id (by omega) (by omega)]; omega
    have szs : ∀ a b : List Nat, a.length + b.length ≤ 9000 → (S a).size + (S b).size ≤ 9223372036854775807 := fun a b h => by rw [S_size, S_size]; omega
    have p1 := parse13 (l := preL o ++ (([48] ++ w) ++ 46 :: p)) (hg.append ((n1.app hw).dg.append (Dg.cons (by decide) hp.dg))) (by simp; omega)
    have p2 := parse13 (l := preL o ++ (([48, 48, 48] ++ w) ++ 46 :: (p ++ [48, 48]))) (hg.append ((n3.app hw).dg.append (Dg.cons (by decide) (hp.app n2).dg))) (by simp; omega)
    rw [rd1 o (by omega) (by omega)] at p1
    rw [rd2 o (by omega) (by omega)] at p2
    refine ev_loop numerarylaw13_CondMoves.l1_eq numerarylaw13_CondMoves.l1_step ?_
    rw [hw1]
    refine ev_pos (by omega) (ev_pos (by omega) (ev_pos (show (i : Int) < ((six0.length : Nat) : Int) by show (i : Int) < 6; omega) ?_))
    have hpre' : rdT .str six0 (i : Int) = S (preL o) := hpre
    rw [hpre', e48, e46, e000, e00]
    simp only [S_app]
    refine ev_pos (szs _ _ (by simp; omega)) (ev_pos (szs _ _ (by simp; omega)) (ev_pos (szs _ _ (by simp; omega)) (ev_pos (szs _ _ (by simp; omega)) ?_)))
    rw [show (((preL o ++ [48]) ++ w) ++ [46]) ++ p = preL o ++ (([48] ++ w) ++ 46 :: p) by simp]
    refine Ev.bind p1 ?_
    refine ev_pos (szs _ _ (by simp; omega)) (ev_pos (szs _ _ (by simp; omega)) (ev_pos (szs _ _ (by simp; omega)) (ev_pos (szs _ _ (by simp; omega)) (ev_pos (szs _ _ (by simp; omega)) ?_))))
    rw [show ((((preL o ++ [48, 48, 48]) ++ w) ++ [46]) ++ p) ++ [48, 48] = preL o ++ (([48, 48, 48] ++ w) ++ 46 :: (p ++ [48, 48])) by simp]
    refine Ev.bind p2 (ev_neg (by simp [oS]) (ev_neg (by simp [oS]) (ev_neg (fun h => h ⟨rfl, rfl, rfl, rfl⟩) (Ev.bind (hH o (by omega) (by omega)) (ev_pos (by omega) (ev_pos (by omega) h))))))
  refine st 0 1 _ _ _ _ _ _ _ (by decide) rfl rfl ?_
  refine st 1 2 _ _ _ _ _ _ _ (by decide) rfl rfl ?_
  refine st 2 3 _ _ _ _ _ _ _ (by decide) rfl rfl ?_
  refine st 3 4 _ _ _ _ _ _ _ (by decide) rfl rfl ?_
  refine st 4 5 _ _ _ _ _ _ _ (by decide) rfl rfl ?_
  refine st 5 6 _ _ _ _ _ _ _ (by decide) rfl rfl ?_
  show Ev (numerarylaw13_CondMoves.l1 (S w) (S p) (V s e f).1 (V s e f).2.1 (V s e f).2.2.1 (V s e f).2.2.2 false (H 1) (H 2) (H 3) (H 4) (H 5) (H 6) six0 6 6) true
  refine moves_fin ?_
  rcases hcase with ⟨hV, hF⟩ | ⟨hV, x, hX⟩
  · simp only [hF]; simp
  · simp only [hX]
    rcases rel_cases x with h | h | h
    · exact .inl h
    · exact .inr (.inl h)
    · exact .inr (.inr (.inl h))
theorem CondMoves (a0 : Int) (h0 : (Lit.int .u32 a0).wf = true) (a1 : Int) (h1 : (Lit.int .u8 a1).wf = true) (a2 : Int) (h2 : (Lit.int .u64 a2).wf = true) : Ev (numerarylaw13_CondMoves.f a0 a1 a2) true := by
  obtain ⟨h0a, h0b⟩ := wf_u32 h0
  obtain ⟨h1a, h1b⟩ := wf_u8 h1
  obtain ⟨h2a, h2b⟩ := wf_u64 h2
  obtain ⟨x, rfl⟩ : ∃ n : Nat, a2 = (n : Int) := ⟨a2.toNat, by omega⟩
  obtain ⟨u, rfl⟩ : ∃ n : Nat, a0 = (n : Int) := ⟨a0.toNat, by omega⟩
  obtain ⟨m, rfl⟩ : ∃ n : Nat, a1 = (n : Int) := ⟨a1.toNat, by omega⟩
  obtain ⟨s, e, f, hs, he, hf, rfl⟩ := W_split (b := x) (by omega)
  have hb := bits_of hs he hf
  have d1 := dn_u32 (n := u) (by omega)
  refine ev_eq numerarylaw13_CondMoves.f_eq (moves_l0 u [] (by omega) (by simp; omega) ?_)
  rw [List.append_nil]
  refine ev_loop numerarylaw13_CondMoves.l0_eq numerarylaw13_CondMoves.l0_step (ev_neg (by simp) (Ev.bind hb ?_))
  rw [two_S (m := m) (by omega)]
  have h3 : m / 10 % 10 < 10 := Nat.mod_lt _ (by decide)
  have h4 : m % 10 < 10 := Nat.mod_lt _ (by decide)
  exact moves_l1 hs he hf (decs0_isD u) (by rw [decs0_len]; omega) (decs0_trimL u) (isD.cons (by omega) (isD.cons (by omega) isD.nil)) rfl
end Go.Proofs.YtlnbcpcnpofnoaaGreatDoor.Pure
