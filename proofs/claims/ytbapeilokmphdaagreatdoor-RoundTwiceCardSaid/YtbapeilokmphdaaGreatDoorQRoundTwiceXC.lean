/- Functions that are told by hand: that they come to it. -/
import Derived.Test.YtbapeilokmphdaaGreatDoorQRoundTwiceSH
import Derived.Tactics
import Derived.Tactics2
import Derived.StillTactics
import Derived.Laws.Pointers
import Derived.RegionTactic
import Derived.LoopTactic
import Derived.ChangeAlike
import Derived.Lib.Walk
import Derived.Lib.ItoaMem
import Derived.WalkKit
import Derived.BigCall
import Derived.BigGuard
import Derived.Shelf.Strings.BuilderK
import Derived.Test.YtbapeilokmphdaaGreatDoorQRoundTwiceF
import Derived.Test.YtbapeilokmphdaaGreatDoorQRoundTwiceZS2
namespace Go.Proofs.YtbapeilokmphdaaGreatDoor.F
open Go Go.Proofs Go.Proofs.YtbapeilokmphdaaGreatDoor.E
set_option linter.unusedVariables false
set_option linter.unusedSimpArgs false
theorem Grows.of_below {w w' : World} (h : Go.RowKit.Below w.heap.size w w') : Grows w w' := ⟨h.size, h.os, h.tape, h.output, fun g hg => h.block g hg⟩
theorem nat_of (c : Int) (h : 0 ≤ c) : ∃ k : Nat, c = (k : Int) := ⟨c.toNat, by omega⟩
theorem vr_str {w : World} {own : Nat → Prop} (s : ByteArray) : VR w own .str s (.string s) := ⟨by simp [R, Value.cells], by simp [Value.oneCell']⟩
theorem vr_bool {w : World} {own : Nat → Prop} (b : Bool) : VR w own .bool b (.bool b) := ⟨by simp [R, Value.cells], by simp [Value.oneCell']⟩
theorem vr_int {w : World} {own : Nat → Prop} {k : IntKind} (n : Int) : VR w own (.int k) n (.int k n) := ⟨by simp [R, Value.cells], by simp [Value.oneCell']⟩
theorem vr_nil {w : World} {own : Nat → Prop} : VR w own .any () .nilIface := ⟨⟨_, rfl, by simp [Value.oneCell']⟩, by simp [Value.oneCell']⟩
theorem toN_mk (l : List UInt8) : S (l.map UInt8.toNat) = ⟨l.toArray⟩ := S_toN ⟨l.toArray⟩
theorem map_dropWhile (l : List UInt8) (c : UInt8) (n : Nat) (h : c.toNat = n) : (l.map UInt8.toNat).dropWhile (· == n) = (l.dropWhile (· == c)).map UInt8.toNat := by
  subst h
  induction l with
  | nil => rfl
  | cons x l ih =>
    rw [List.map_cons, List.dropWhile_cons, List.dropWhile_cons, ih]
    have : (x.toNat == c.toNat) = (x == c) := by rw [Bool.eq_iff_iff]; simp [UInt8.toNat_inj]
    rw [this]
    cases (x == c) <;> rfl
/-! ### strings.TrimLeft -/
-- import Derived.Test.YtbapeilokmphdaaGreatDoorSH
theorem strings_TrimLeft.ok : Ctr Tryz.prog globs 76 strings_TrimLeft.ent := by
  refine ⟨⟨_, Tryz.func76, rfl, rfl⟩, fun X x r w vs hL hg hX ha hF => ?_⟩
  obtain ⟨v1, _, rfl, h1, v2, rfl, h2⟩ := ha
  obtain ⟨s, c⟩ := x
  obtain rfl := VR_str h1
  obtain rfl := VR_str h2
  have hF : strings_TrimLeft.f s c r := hF
  unfold strings_TrimLeft.f at hF
  by_cases hc : c = (⟨#[48]⟩ : ByteArray)
  · rw [if_pos hc] at hF
    obtain rfl : r = _ := hF
    subst hc
    refine (Tryz.strings_TrimLeft_one s 48 (by decide) w).mono fun e w' ⟨he, hw⟩ => ⟨_, he, by subst hw; exact Grows.refl _, ?_⟩
    have e1 : (toN s).dropWhile (· == 48) = (Lib.trimLeftB s.data.toList 48).map UInt8.toNat := map_dropWhile _ 48 48 rfl
    rw [e1, toN_mk]
    exact vr_str _
  · rw [if_neg hc] at hF; exact hF.elim
/-! ### strings.TrimRight -/
-- import Derived.Test.YtbapeilokmphdaaGreatDoorSH
theorem strings_TrimRight.ok : Ctr Tryz.prog globs 117 strings_TrimRight.ent := by
  refine ⟨⟨_, Tryz.func117, rfl, rfl⟩, fun X x r w vs hL hg hX ha hF => ?_⟩
  obtain ⟨v1, _, rfl, h1, v2, rfl, h2⟩ := ha
  obtain ⟨s, c⟩ := x
  obtain rfl := VR_str h1
  obtain rfl := VR_str h2
  have hF : strings_TrimRight.f s c r := hF
  unfold strings_TrimRight.f at hF
  by_cases hc : c = (⟨#[48]⟩ : ByteArray) ∧ s.size ≤ 9223372036854775807
  · rw [if_pos hc] at hF
    obtain rfl : r = _ := hF
    obtain ⟨rfl, hs⟩ := hc
    refine (Tryz.strings_TrimRight_one s 48 (by decide) w hs).mono fun e w' ⟨he, hw⟩ => ⟨_, he, by subst hw; exact Grows.refl _, ?_⟩
    have e1 : ((toN s).reverse.dropWhile (· == 48)).reverse = (Lib.trimRightB s.data.toList 48).map UInt8.toNat := by
      unfold toN Lib.trimRightB
      rw [← List.map_reverse, map_dropWhile _ 48 48 rfl, List.map_reverse]
    rw [e1, toN_mk]
    exact vr_str _
  · rw [if_neg hc] at hF; exact hF.elim
/-! ### strings.Repeat -/
-- import Derived.Test.YtbapeilokmphdaaGreatDoorSH
theorem repeatL_one (b : UInt8) (c : Nat) : Lib.repeatL [b] c = List.replicate c b := by
  induction c with
  | zero => rfl
  | succ c ih => rw [Lib.repeatL, ih, List.replicate_succ]; rfl
theorem strings_Repeat.ok : Ctr Tryz.prog globs 50 strings_Repeat.ent := by
  refine ⟨⟨_, Tryz.func50, rfl, rfl⟩, fun X x r w vs hL hg hX ha hF => ?_⟩
  obtain ⟨v1, _, rfl, h1, v2, rfl, h2⟩ := ha
  obtain ⟨s, c⟩ := x
  obtain rfl := VR_str h1
  obtain rfl := VR_int h2
  have hF : strings_Repeat.f s c r := hF
  unfold strings_Repeat.f at hF
  by_cases hc : s = (⟨#[48]⟩ : ByteArray) ∧ 0 ≤ c ∧ c ≤ 140737488355328
  · rw [if_pos hc] at hF
    obtain rfl : r = _ := hF
    obtain ⟨rfl, h0, h1⟩ := hc
    obtain ⟨k, rfl⟩ := nat_of c h0
    have h1 : (k : Int) ≤ 140737488355328 := h1
    refine (Tryz.strings_Repeat (⟨#[48]⟩ : ByteArray) k w (by omega) (by show 1 * k ≤ _; omega)).mono fun e w' ⟨he, hw⟩ => ⟨_, he, Grows.of_below hw, ?_⟩
    have e1 : List.replicate (k : Int).toNat 48 = (Lib.repeatL [(48 : UInt8)] k).map UInt8.toNat := by rw [repeatL_one, List.map_replicate, Int.toNat_natCast]; rfl
    have e2 : S (List.replicate (k : Int).toNat 48) = ⟨(Lib.repeatL [(48 : UInt8)] k).toArray⟩ := by rw [e1, toN_mk]
    show VR w' X .str (S (List.replicate (k : Int).toNat 48)) _
    rw [e2]
    exact vr_str _
  · rw [if_neg hc] at hF; exact hF.elim
/-! ### internal/strconv.FormatUint -/
-- import Derived.Test.YtbapeilokmphdaaGreatDoorSH
-- import Derived.Tactics
-- import Derived.Tactics2
-- import Derived.StillTactics
-- import Derived.Laws.Pointers
-- import Derived.RegionTactic
-- import Derived.LoopTactic
-- import Derived.ChangeAlike
-- import Derived.Lib.Walk
-- import Derived.Lib.ItoaMem
-- import Derived.WalkKit
-- import Derived.BigCall
-- import Derived.BigGuard
theorem tabIs_of {P : Program} {w : World} {name : String} {k : IntKind} {l : List Int} {g : Nat} (hn : P.globalNamed name = some g) (h : ∃ (e : TypeId) (cs : List Value) (fr : Nat × Nat), w.heap[g]? = some (.cells cs.toArray e fr) ∧ cs = l.map (Value.int k)) : Lib.TabIs P w name k l := by
  obtain ⟨e, cs, fr, h1, h2⟩ := h
  unfold Lib.TabIs World.var?
  rw [hn]
  simp only [Option.bind_some, h1, h2]
theorem decDigits_dg (u : Nat) (h : 0 < u) : (Lib.decDigits u).map UInt8.toNat = decs0 u := by
  induction u using Nat.strongRecOn with
  | _ u ih =>
    unfold decs0
    rw [dg_pos (by decide) h, Lib.decDigits]
    by_cases c : u < 10
    · rw [dif_pos c, show u / 10 = 0 by omega, dg_zero]
      have : (48 + u) % 256 = 48 + u % 10 := by omega
      simp [UInt8.toNat_ofNat', this]
    · rw [dif_neg c, List.map_append, ih (u / 10) (by omega) (by omega)]
      have : (48 + u % 10) % 256 = 48 + u % 10 := by omega
      simp [decs0, UInt8.toNat_ofNat', this]
theorem decDigits_S (u : Nat) : (⟨(Lib.decDigits u).toArray⟩ : ByteArray) = S (decs u) := by
  unfold decs
  by_cases c : u = 0
  · subst c
    rw [if_pos rfl, Lib.decDigits, dif_pos (by decide)]; rfl
  · rw [if_neg c, ← decDigits_dg u (by omega), toN_mk]
set_option maxHeartbeats 6400000 in
set_option maxRecDepth 100000 in
open Go.RowKit Go.Sort Go.Lib in
theorem formatUint10 (u : Nat) (hu64 : u < 18446744073709551616) (w : World) (htab : Lib.TabIs Tryz.prog w "internal/strconv.uint64pow10" .u64 Lib.pow10Tab) :
    Calls Tryz.prog 162 #[.int .u64 u, .int .i64 10] w fun e w' => e = .returned (.string ⟨(Lib.decDigits u).toArray⟩) ∧ Below w.heap.size w w' := by
  by_cases hs : u < 100
  · go_enter Tryz.func162, Tryz.ntmps162
    have hwr : IntKind.i64.wrap (u : Int) = (u : Int) := by rw [i64_def]; split <;> omega
    go_wp2_with (go_at_call 170; refine (Tryz.internal_strconv_small u hs _).mono ?_; rintro e w' ⟨rfl, rfl⟩)
    go_ret
    exact ⟨rfl, Below.refl _ _⟩
  · have hu1 : 1 ≤ u := by omega
    have hnd20 : Lib.nDigits u ≤ 20 := by have := Lib.numDigits_eq u hu1 hu64; split at this <;> omega
    have hal : Tryz.prog.arrayLen 196 = 24 := by simp [Program.arrayLen, Tryz.underlying196]
    have hsl : ∀ W, (Instr.sliceAt 196 (.pointer (some ⟨w.heap.size, 0, none⟩)) none (some (.int .i64 (Lib.nDigits u : Int))) none).run Tryz.prog W = .ok (.slice (some ⟨w.heap.size, 0, none⟩) (Lib.nDigits u) 24) W := fun W => by
      rw [run_sliceAt_array_h W 196 ⟨w.heap.size, 0, none⟩ (by simp [Program.arrayLen, Program.elem, Tryz.underlying196]) .i64 (Lib.nDigits u : Int) (by omega) (by rw [hal]; omega)]
      go_simp
    have hH0 : Holds (fun (b : UInt8) => Value.int .u8 (b.toNat : Int)) (w.alloc (.cells Lib.zeros24 196)) w.heap.size 0 (Array.replicate (Lib.nDigits u) (0 : UInt8)) := fun j hj => by
      have hj' : j < Lib.nDigits u := by simpa using hj
      refine ⟨?_, World.frozen?_alloc_new _ _ _ _⟩
      rw [World.cell?_alloc_new, Lib.zeros24_at _ (by omega), getElem!_pos _ j hj]
      simp
    have hfmt := Tryz.internal_strconv_formatBase10 w.heap.size 0 24 u (Array.replicate (Lib.nDigits u) 0) (w.alloc (.cells Lib.zeros24 196)) hH0 (by rw [Array.size_replicate]; exact Lib.lt_pow_nDigits u) hu64 (by rw [Array.size_replicate]; omega)
    rw [Array.size_replicate] at hfmt
    have HH0 := Lib.hid hH0
    clear hH0 hal
    go_enter Tryz.func162, Tryz.ntmps162
    go_wp2_with (first
      | (go_at_call 171; refine (Tryz.internal_strconv_numDigits u hu1 hu64 _ (Lib.tabIs_alloc htab _)).mono ?_; rintro e w' ⟨rfl, rfl⟩))
    go_at_call 172
    refine hfmt.mono ?_
    rintro e w' ⟨rfl, k, v', dk, rfl, hF⟩
    have hcv : (convert 66 9 (.slice (some ⟨w.heap.size, 0, none⟩) (Lib.nDigits u) 24)).run Tryz.prog ((putRow (fun (b : UInt8) => Value.int .u8 (b.toNat : Int)) (w.alloc (.cells Lib.zeros24 196)) w.heap.size 0 dk).drewN k) = .ok (.string ⟨(Lib.decDigits u).toArray⟩) ((putRow (fun (b : UInt8) => Value.int .u8 (b.toNat : Int)) (w.alloc (.cells Lib.zeros24 196)) w.heap.size 0 dk).drewN k) := by
      have h := run_convert_bytes_back (P := Tryz.prog) ((putRow (fun (b : UInt8) => Value.int .u8 (b.toNat : Int)) (w.alloc (.cells Lib.zeros24 196)) w.heap.size 0 dk).drewN k) 66 9 5 ⟨w.heap.size, 0, none⟩ 24 (Lib.decDigits u) Tryz.underlying66 Tryz.underlying5 Tryz.underlying9 (fun j hj => by
        rw [Lib.row_is_numeral hF j hj, Lib.add_plain, World.cell?_drewN]
        exact cell?_putRow (fun (b : UInt8) => Value.int .u8 (b.toNat : Int)) _ w.heap.size 0 _ dk HH0.out (by rw [hF.size, Array.size_replicate]) j (by rw [hF.size]; rw [Lib.decDigits_length] at hj; exact hj))
      rw [Lib.decDigits_length] at h
      exact h
    go_wp2
    go_ret
    refine ⟨rfl, ?_⟩
    rw [alloc_eq_grow]
    obtain ⟨os, _, e⟩ := putRow_grow_new (fun (b : UInt8) => Value.int .u8 (b.toNat : Int)) w #[.cells Lib.zeros24 196] w.heap.size 0 dk (Nat.le_refl _)
    rw [e]
    exact ⟨rfl, rfl, rfl, by simp [World.drewN, grow], fun j hj => by simp [World.drewN, grow, Array.getElem?_append_left, hj]⟩
/-! ### strconv.FormatUint internal/strconv.FormatUint -/
theorem strconv_FormatUint.ok : Ctr Tryz.prog globs 138 strconv_FormatUint.ent := by
  refine ⟨⟨_, Tryz.func138, rfl, rfl⟩, fun X x r w vs hL hg hX ha hF => ?_⟩
  obtain ⟨v1, _, rfl, h1, v2, rfl, h2⟩ := ha
  obtain ⟨n, b⟩ := x
  obtain rfl := VR_int h1
  obtain rfl := VR_int h2
  have hF : strconv_FormatUint.f n b r := hF
  unfold strconv_FormatUint.f at hF
  have htab : Lib.TabIs Tryz.prog w "internal/strconv.uint64pow10" .u64 Lib.pow10Tab := tabIs_of (g := 7) (by kernel_rfl) (hL 7 .u64 Lib.pow10Tab (by kernel_rfl))
  by_cases hc : b = 10 ∧ 0 ≤ n ∧ n < 18446744073709551616
  · rw [if_pos hc] at hF
    obtain rfl : r = _ := hF
    obtain ⟨rfl, h0, h1⟩ := hc
    obtain ⟨u, rfl⟩ := nat_of n h0
    have h1 : (u : Int) < 18446744073709551616 := h1
    have hcall := formatUint10 u (by omega) w htab
    refine Go.Calls.mono (R := fun e w' => e = .returned (.string ⟨(Lib.decDigits u).toArray⟩) ∧ Go.RowKit.Below w.heap.size w w') ?_ fun e w' ⟨he, hw⟩ => ⟨_, he, Grows.of_below hw, ?_⟩
    · go_enter Tryz.func138, Tryz.ntmps138
      go_wp2_with (go_at_call 162; refine hcall.mono ?_; rintro e w' ⟨rfl, hb⟩)
      go_ret
      exact ⟨rfl, hb⟩
    · rw [decDigits_S, Int.toNat_natCast]
      exact vr_str _
  · rw [if_neg hc] at hF; exact hF.elim
/-! ### strconv.Itoa internal/strconv.FormatUint -/
theorem strconv_Itoa.ok : Ctr Tryz.prog globs 128 strconv_Itoa.ent := by
  refine ⟨⟨_, Tryz.func128, rfl, rfl⟩, fun X x r w vs hL hg hX ha hF => ?_⟩
  obtain ⟨v1, rfl, h1⟩ := ha
  obtain rfl := VR_int h1
  have hF : strconv_Itoa.f x r := hF
  unfold strconv_Itoa.f at hF
  have htab : Lib.TabIs Tryz.prog w "internal/strconv.uint64pow10" .u64 Lib.pow10Tab := tabIs_of (g := 7) (by kernel_rfl) (hL 7 .u64 Lib.pow10Tab (by kernel_rfl))
  by_cases hc : 0 ≤ x ∧ x ≤ 9223372036854775807
  · rw [if_pos hc] at hF
    obtain rfl : r = _ := hF
    obtain ⟨h0, h1⟩ := hc
    obtain ⟨u, rfl⟩ := nat_of x h0
    have h1 : (u : Int) ≤ 9223372036854775807 := h1
    refine (Tryz.strconv_Itoa (u : Int) (by omega) (by omega) w htab).mono fun e w' ⟨he, k, os, hw⟩ => ⟨_, he, ?_, ?_⟩
    · subst hw
      exact ⟨by simp [World.drewN, Go.Sort.grow], rfl, rfl, rfl, fun j hj => by simp [World.drewN, Go.Sort.grow, Array.getElem?_append_left, hj]⟩
    · rw [Lib.itoa_nonneg, decDigits_S, Int.toNat_natCast]
      exact vr_str _
  · rw [if_neg hc] at hF; exact hF.elim
/-! ### strconv.ParseUint -/
-- import Derived.Test.YtbapeilokmphdaaGreatDoorSH
theorem parseUintM_val (l : List UInt8) (hd : ∀ c ∈ l, 48 ≤ c.toNat ∧ c.toNat ≤ 57) : ∀ acc : Nat, acc * 10 ^ l.length + val 10 ((l.map UInt8.toNat).reverse.map (· - 48)) < 10 ^ 18 → Lib.parseUintM (2 ^ 64 - 1) acc l = .ok (acc * 10 ^ l.length + val 10 ((l.map UInt8.toNat).reverse.map (· - 48))) := by
  induction l with
  | nil => intro acc _; simp [Lib.parseUintM, val]
  | cons c l ih =>
    intro acc h
    have h1 := hd c List.mem_cons_self
    have e : acc * 10 ^ (c :: l).length + val 10 (((c :: l).map UInt8.toNat).reverse.map (· - 48)) = (acc * 10 + (c.toNat - 48)) * 10 ^ l.length + val 10 ((l.map UInt8.toNat).reverse.map (· - 48)) := by
      rw [List.map_cons, List.reverse_cons, List.map_append, val_append, List.length_cons, Nat.pow_succ]
      simp [val]
      grind
    rw [e] at h ⊢
    have hp : 0 < 10 ^ l.length := Nat.pow_pos (by decide)
    have hle : acc * 10 + (c.toNat - 48) ≤ (acc * 10 + (c.toNat - 48)) * 10 ^ l.length := Nat.le_mul_of_pos_right _ hp
    rw [Lib.parseUintM, if_pos h1, if_neg (by omega), if_neg (by omega)]
    exact ih (fun x hx => hd x (List.mem_cons_of_mem _ hx)) _ h
theorem strconv_ParseUint.ok : Ctr Tryz.prog globs 88 strconv_ParseUint.ent := by
  refine ⟨⟨_, Tryz.func88, rfl, rfl⟩, fun X x r w vs hL hg hX ha hF => ?_⟩
  obtain ⟨v1, _, rfl, h1, v2, _, rfl, h2, v3, rfl, h3⟩ := ha
  obtain ⟨s, b, k⟩ := x
  obtain rfl := VR_str h1
  obtain rfl := VR_int h2
  obtain rfl := VR_int h3
  have hF : strconv_ParseUint.f s b k r := hF
  unfold strconv_ParseUint.f at hF
  by_cases hc : b = 10 ∧ k = 64 ∧ (toN s).all (fun c => decide (48 ≤ c) && decide (c ≤ 57)) = true ∧ (toN s).length ≤ 18 ∧ toN s ≠ []
  · rw [if_pos hc] at hF
    obtain rfl : r = _ := hF
    obtain ⟨rfl, rfl, hd, hl, hn⟩ := hc
    have hlen : s.data.toList.length ≤ 18 := by unfold toN at hl; simpa using hl
    have hd2 : ∀ c ∈ s.data.toList, 48 ≤ c.toNat ∧ c.toNat ≤ 57 := by
      intro c hc
      have := List.all_eq_true.mp hd c.toNat (List.mem_map.mpr ⟨c, hc, rfl⟩)
      simpa using this
    have hlt : val 10 ((toN s).reverse.map (· - 48)) < 10 ^ 18 := by
      have h1 := val_lt (B := 10) (l := (toN s).reverse.map (· - 48)) (by decide) (fun x hx => by
        obtain ⟨y, hy, rfl⟩ := List.mem_map.mp hx
        rw [List.mem_reverse] at hy
        obtain ⟨c, hc, rfl⟩ := List.mem_map.mp hy
        have := hd2 c hc
        omega)
      rw [List.length_map, List.length_reverse] at h1
      exact Nat.lt_of_lt_of_le h1 (Nat.pow_le_pow_right (by decide) hl)
    have hok : Lib.parseUintB 64 s.data.toList = .ok (val 10 ((toN s).reverse.map (· - 48))) := by
      have := parseUintM_val s.data.toList hd2 0 (by rw [Nat.zero_mul, Nat.zero_add]; exact hlt)
      rw [Nat.zero_mul, Nat.zero_add] at this
      unfold Lib.parseUintB
      rw [if_neg (fun h => hn (by unfold toN; rw [h]; rfl))]
      exact this
    have hsz : s.size ≤ 9223372036854775806 := by
      have : s.size = s.data.toList.length := by simp
      omega
    refine (Tryz.strconv_ParseUint_10_at64_ok s hsz _ hok w).mono fun e w' ⟨he, hw⟩ => ⟨_, he, ?_, ?_⟩
    · rcases hw with rfl | rfl
      · exact Grows.refl _
      · exact Grows.of_below (Lib.bytesWorld_below w 5 s)
    · exact ⟨[_, _], rfl, _, _, rfl, vr_int _, _, rfl, vr_nil⟩
  · rw [if_neg hc] at hF; exact hF.elim
/-! ### numerary/digits.plain strings.Repeat -/
-- import Derived.Test.YtbapeilokmphdaaGreatDoorSH
-- import Derived.Shelf.Strings.BuilderK
-- import Derived.Tactics
-- import Derived.Tactics2
-- import Derived.StillTactics
-- import Derived.Laws.Pointers
-- import Derived.RegionTactic
-- import Derived.LoopTactic
-- import Derived.ChangeAlike
-- import Derived.WalkKit
-- import Derived.BigCall
theorem joinL_snoc (l : List ByteArray) (i : Nat) (h : i < l.length) : joinL (l.drop i) = joinL (l.drop (i + 1)) ++ l[i].data.toList := by
  unfold joinL
  rw [List.drop_eq_getElem_cons h, List.reverse_cons, List.map_append, List.flatten_append]
  simp
theorem joinL_le (l : List ByteArray) (i : Nat) : (joinL (l.drop i)).length ≤ (joinL l).length := by
  have : joinL l = joinL (l.drop i) ++ joinL (l.take i) := by
    unfold joinL
    rw [← List.flatten_append, ← List.map_append, ← List.reverse_append, List.take_append_drop]
  rw [this, List.length_append]; omega
open Go.RowKit in
theorem writeStr (B b : Nat) (bs : List Value) (s : ByteArray) (w : World) (h : Lib.IsBuilderF 134 5 B b bs w) (hlen : bs.length + s.size ≤ 140737488355328) (hBw : B ≤ w.heap.size) :
    Calls Tryz.prog 94 #[.pointer (some ⟨b, 0, none⟩), .string s] w fun e w' => e = .returned (.tuple #[.int .i64 s.size, .nilIface]) ∧ (Lib.BuilderAtF 134 5 B b (.pointer (some ⟨b, 0, none⟩)) (bs ++ Lib.strCells s) w' ∧ Below B w w' ∧ Lib.OthersKept 5 (some b) w w') :=
  Any.Builder_WriteString_k (ρ := Tryz.lays105_ren) { Tryz.lays105 with } Tryz.Builder_Extra_105 B b bs s w h hlen hBw
set_option maxHeartbeats 6400000 in
set_option maxRecDepth 1000000 in
open Go.RowKit in
theorem plain_tail (x0 x1 x2 x4 x5 x6 x7 x8 x9 x10 x11 x12 x13 x14 x15 x16 x17 x18 x19 x20 x21 x22 x23 x24 x25 x26 x27 x28 x29 x30 x31 x32 x33 x34 x35 x36 x37 x38 x39 x40 x41 x42 x43 x44 x45 x46 x47 x48 x49 x50 x51 : Value) (so : Option Addr) (l : List ByteArray) (cap : Nat) (w : World) (hso : l = [] ∨ ∃ g, so = some ⟨g, 0, none⟩ ∧ ∀ (j : Nat) (h : j < l.length), w.cell? ⟨g, j, none⟩ = some (.string l[j])) (hln : l.length ≤ 9223372036854775807) (hj : (joinL l).length ≤ 140737488355328) (fn : Func) (hfn : fn = Tryz.f118) :
    Code.wp Tryz.prog (cutTail 3 (bodyOf Tryz.f118)) (bodyPost Tryz.prog fn fun e w' => e = .returned (.string ⟨(joinL l).toArray⟩) ∧ Below w.heap.size w w') { tmps := #[x0, x1, x2, .slice so l.length cap, x4, x5, x6, x7, x8, x9, x10, x11, x12, x13, x14, x15, x16, x17, x18, x19, x20, x21, x22, x23, x24, x25, x26, x27, x28, x29, x30, x31, x32, x33, x34, x35, x36, x37, x38, x39, x40, x41, x42, x43, x44, x45, x46, x47, x48, x49, x50, x51], defers := [] } w := by
  dsimp only [cutTail, bodyOf, Tryz.f118]
  go_wp2
  go_loopw [11] (fun v wr => ∃ (i : Nat), v = .int .i64 ((i : Int) - 1) ∧ i ≤ l.length ∧ Lib.IsBuilderF 134 5 w.heap.size w.heap.size (Lib.byteCells (joinL (l.drop i))) wr ∧ Below w.heap.size w wr) (fun v _ => (RowKit.intOf v + 1).toNat)
  case atStart =>
    refine ⟨l.length, ?_, Nat.le_refl _, ?_, (Below.refl _ w).alloc (Nat.le_refl _) _⟩
    · first | rfl | (congr 1; simp only [wrap64]; omega) | (congr 1; omega)
    · rw [List.drop_length]
      exact Lib.IsBuilderF.of (Lib.fresh_isBuilder _ 5 w)
  case round =>
    obtain ⟨i, rfl, hi, hI, hb⟩ := hrel
    by_cases hi0 : i = 0
    · subst hi0
      go_wp2_with (go_at_call 96; refine (Tryz.Builder_String_any_k w.heap.size w.heap.size _ _ hI hb.size).mono ?_)
      rintro e W1 ⟨rfl, _, b1, _⟩
      go_wp2
      subst hfn
      go_ret
      exact ⟨rfl, hb.trans b1⟩
    · obtain ⟨j, rfl⟩ : ∃ j, i = j + 1 := ⟨i - 1, by omega⟩
      have hjl : j < l.length := by omega
      rcases hso with hso | ⟨g, rfl, hc⟩
      · subst hso; simp at hjl
      have hcw := hc j hjl
      have hglt : g < w.heap.size := block_lt hcw
      have hcr : _root_.Go.World.cell? _ ⟨g, j, none⟩ = some (.string l[j]) := (cell_eq (hb.block g hglt)).trans hcw
      have hsz : (joinL (l.drop (j + 1))).length + l[j].size ≤ 140737488355328 := by
        have h1 := joinL_le l j
        rw [joinL_snoc l j hjl, List.length_append] at h1
        have : l[j].size = l[j].data.toList.length := by simp
        omega
      rw [show ((j + 1 : Nat) : Int) - 1 = (j : Int) by omega]
      clear hc hcw
      go_wp2_with (go_at_call 94; refine (writeStr w.heap.size w.heap.size _ l[j] _ hI (by rw [Lib.byteCells_length]; exact hsz) hb.size).mono ?_)
      rintro e W1 ⟨rfl, h1, b1, k1⟩
      go_wp2
      go_roundw
      case rel =>
        refine ⟨j, ?_, by omega, ?_, hb.trans b1⟩
        · first | rfl | (congr 1; simp only [wrap64]; omega) | (congr 1; omega)
        · rw [joinL_snoc l j hjl, Lib.byteCells_append]; exact Or.inr h1
      case measure =>
        simp [RowKit.intOf, wrap64]
        try omega
theorem arr52 (t : Array Value) (h : t.size = 52) (g : Nat → Value) (hg : ∀ i, t.getD i undef = g i) : t = #[g 0, g 1, g 2, g 3, g 4, g 5, g 6, g 7, g 8, g 9, g 10, g 11, g 12, g 13, g 14, g 15, g 16, g 17, g 18, g 19, g 20, g 21, g 22, g 23, g 24, g 25, g 26, g 27, g 28, g 29, g 30, g 31, g 32, g 33, g 34, g 35, g 36, g 37, g 38, g 39, g 40, g 41, g 42, g 43, g 44, g 45, g 46, g 47, g 48, g 49, g 50, g 51] := by
  have e : t = ((List.range 52).map g).toArray := by
    obtain ⟨ts⟩ := t
    congr 1
    refine List.ext_getElem (by simpa using h) fun i h1 h2 => ?_
    rw [List.getElem_map, List.getElem_range, ← hg i]
    simp [h1]
  rw [e]; rfl
theorem cutQ_spec {t : Nat} {ty : Ty} {st : St} {l : List ty.D} (h : cutQ t ty .normal st l) : ∃ d, st.s t = .row d ∧ st.m d = .own true ty l := by
  have k2 : ∀ b : MB, (match b with
      | .own true a l => if h : a = ty then M.ret (castD (congrArg Ty.lst h) l) else M.none
      | _ => (M.none : M (List ty.D))) l → b = .own true ty l := by
    intro b h
    cases b <;> first | exact h.elim | skip
    rename_i app a y
    cases app <;> first | exact h.elim | skip
    have h : (if h : a = ty then M.ret (castD (congrArg Ty.lst h) y) else (M.none : M (List ty.D))) l := h
    by_cases e : a = ty
    · subst e
      rw [dif_pos rfl] at h
      obtain rfl : l = y := h
      rfl
    · rw [dif_neg e] at h; exact h.elim
  have k1 : ∀ v : AV, (match v with
      | .row d => match st.m d with
        | .own true a l => if h : a = ty then M.ret (castD (congrArg Ty.lst h) l) else M.none
        | _ => M.none
      | _ => (M.none : M (List ty.D))) l → ∃ d, v = .row d ∧ st.m d = .own true ty l := by
    intro v h
    cases v <;> first | exact h.elim | skip
    rename_i d
    exact ⟨d, rfl, k2 _ h⟩
  exact k1 _ h
theorem digits_plain.told {Γ : Ctx} (hΓ : CtxOK Tryz.prog Γ) (hm : Tryz.prog.follows .mixedOrders = true) {A : Live} (hf : FnOK Tryz.prog 118 Tryz.f118 1)
    (g0 : goodC Tryz.f118.ntmps (cutAt 0 (bodyOf Tryz.f118)) = true) (g1 : goodC Tryz.f118.ntmps (cutAt 1 (bodyOf Tryz.f118)) = true) (g2 : goodC Tryz.f118.ntmps (cutAt 2 (bodyOf Tryz.f118)) = true) :
    Ctr Tryz.prog Γ.glob 118 (.plain (.agg (.lst (.int .u32))) .str false fun x => M.bind (evCode Γ A (cutAt 0 (bodyOf Tryz.f118)) (argsSt 0 (.agg (.lst (.int .u32))) x st0) (onlyN fun st => evCode Γ A (cutAt 1 (bodyOf Tryz.f118)) st (onlyN fun st => evCode Γ A (cutAt 2 (bodyOf Tryz.f118)) st (cutQ 3 .str)))) fun l => joined l) := by
  refine ⟨hf.entered, fun X x r w vs hL hg hX ha hr => ?_⟩
  obtain ⟨l, hl, hr⟩ := hr
  have H : Home Tryz.prog Γ X ⟨fun _ => False, undef, ([], [])⟩ w := ⟨hΓ, hL, fun g v h => ⟨hg g v h, fun h => h⟩⟩
  have hE := Go.Proofs.YtbapeilokmphdaaGreatDoor.E.start w X hX ha (k := Tryz.f118.ntmps) hf.args
  have hbody : bodyOf Tryz.f118 = .seq (cutAt 0 (bodyOf Tryz.f118)) (.seq (cutAt 1 (bodyOf Tryz.f118)) (.seq (cutAt 2 (bodyOf Tryz.f118)) (cutTail 3 (bodyOf Tryz.f118)))) := by kernel_rfl
  refine calls_of_wp hf.at_ (c := .seq (cutAt 0 (bodyOf Tryz.f118)) (.seq (cutAt 1 (bodyOf Tryz.f118)) (.seq (cutAt 2 (bodyOf Tryz.f118)) (cutTail 3 (bodyOf Tryz.f118))))) (by rw [hf.body]; exact congrArg some hbody) ?_
  refine wp_seq (code_ok H hm (A := A) _ g0 (r := l) ?_ hE hl)
  refine fun G0 st0 a0 w0 E0 => ⟨fun h0 => ?_, fun i h => h.elim, fun h => h.elim⟩
  refine wp_seq (code_ok H hm (A := A) _ g1 (r := l) ?_ E0 h0)
  refine fun G1 st1 a1 w1 E1 => ⟨fun h1 => ?_, fun i h => h.elim, fun h => h.elim⟩
  refine wp_seq (code_ok H hm (A := A) _ g2 (r := l) ?_ E1 h1)
  refine fun G st a w' E => ⟨fun h => ?_, fun i h => h.elim, fun h => h.elim⟩
  obtain ⟨d, hs, hd⟩ := cutQ_spec h
  have hslot := E.slots 3
  rw [hs] at hslot
  simp only [AR, hd] at hslot
  have hM := E.mems d
  unfold MR at hM; rw [hd] at hM; simp only at hM
  -- what is joined isn't too long
  obtain ⟨hjn, rfl⟩ : (joinL l).length ≤ 140737488355328 ∧ r = ⟨(joinL l).toArray⟩ := by
    have hr : (if (joinL l).length ≤ 140737488355328 then M.ret (⟨(joinL l).toArray⟩ : ByteArray) else M.none) r := hr
    by_cases c : (joinL l).length ≤ 140737488355328
    · rw [if_pos c] at hr; exact ⟨c, hr⟩
    · rw [if_neg c] at hr; exact hr.elim
  obtain ⟨so, cap, hβ, hln, hso⟩ : ∃ (so : Option Addr) (cap : Nat), G.β d = .slice so l.length cap ∧ l.length ≤ maxLen ∧ (l = [] ∨ ∃ g, so = some ⟨g, 0, none⟩ ∧ ∀ (j : Nat) (h : j < l.length), w'.cell? ⟨g, j, none⟩ = some (.string l[j])) := by
    rcases hM with ⟨q1, q2, _⟩ | ⟨g, e', cap, css, post, q1, q2, q3, q4, q5⟩
    · exact ⟨none, 0, by rw [q1, q2]; rfl, by rw [q2]; exact Nat.zero_le _, .inl q2⟩
    · rw [if_pos trivial] at q5
      rw [q5.1] at q1 q2
      refine ⟨_, cap, q1, Nat.le_trans q4 q5.2.2, .inr ⟨g, rfl, fun j hj => ?_⟩⟩
      have hflat : css.flatten = l.map Value.string := by
        have hj : ∀ (l : List ByteArray) (css : List (List Value)), All2 (R w' (Own X G.β st.m) .str) l css → css.flatten = l.map Value.string := by
          intro l
          induction l with
          | nil => intro css h; cases css with
            | nil => rfl
            | cons c css => exact h.elim
          | cons s l ih => intro css h; cases css with
            | nil => exact h.elim
            | cons c css =>
              obtain ⟨h1, h2⟩ := h
              have h1 : c = [.string s] := h1
              rw [List.flatten_cons, ih css h2, h1]; rfl
        exact hj l css q3
      have := own_cells (w := w') (g := g) (pre := []) (mid := css.flatten) (post := post) q2 j (c := .string l[j]) (by rw [hflat, List.getElem?_map, List.getElem?_eq_getElem hj]; rfl)
      simpa [Lib.add_plain] using this
  have hsz : a.tmps.size = 52 := E.size
  obtain ⟨tm, df⟩ := a
  have hdf : df = [] := E.defers
  subst hdf
  have htm := arr52 tm hsz (fun i => tm.getD i undef) (fun _ => rfl)
  have h3 : tm.getD 3 undef = .slice so l.length cap := by rw [← hβ]; exact hslot
  dsimp only at htm
  rw [h3] at htm
  show (cutTail 3 (bodyOf Tryz.f118)).wp Tryz.prog _ { tmps := tm, defers := [] } w'
  rw [htm]
  have hg' : Grows w w' := grows_of E (fun k h => h)
  refine Code.wp_mono ?_ (plain_tail _ _ _ _ _ _ _ _ _ _ _ _ _ _ _ _ _ _ _ _ _ _ _ _ _ _ _ _ _ _ _ _ _ _ _ _ _ _ _ _ _ _ _ _ _ _ _ _ _ _ _ so l cap w' hso (by have : l.length ≤ maxLen := hln; unfold maxLen at this; exact Nat.le_trans this (by decide)) hjn _ rfl)
  intro e a2 w2 hp
  cases e <;> first | exact hp | skip
  · obtain ⟨hd2, v, hv, hev, hb⟩ := hp; exact ⟨hd2, v, hv, _, hev, hg'.trans (Grows.of_below hb), vr_str _⟩
  · obtain ⟨hd2, v, hv, hev, hb⟩ := hp; exact ⟨hd2, v, hv, _, hev, hg'.trans (Grows.of_below hb), vr_str _⟩
  · exact nomatch hp.2.1
  · exact nomatch hp.1
/-! ### internal/stringslite.Index -/
theorem idx_map (l : List UInt8) (b : UInt8) : idxN (l.map UInt8.toNat) b.toNat = Lib.indexByte l b := by
  induction l with
  | nil => rfl
  | cons x l ih =>
    rw [List.map_cons, idxN, Lib.indexByte, ih]
    have : (x == b) = decide (x.toNat = b.toNat) := by rw [Bool.eq_iff_iff]; simp [UInt8.toNat_inj]
    rw [this]
    by_cases h : x.toNat = b.toNat
    · simp [h]
    · simp only [h, if_false, decide_false]
      by_cases h2 : Lib.indexByte l b = -1
      · simp [h2]
      · simp [h2]
-- import Derived.Test.YtbapeilokmphdaaGreatDoorSH
theorem internal_stringslite_Index.ok : Ctr Tryz.prog globs 129 internal_stringslite_Index.ent := by
  refine ⟨⟨_, Tryz.func129, rfl, rfl⟩, fun X x r w vs hL hg hX ha hF => ?_⟩
  obtain ⟨v1, _, rfl, h1, v2, rfl, h2⟩ := ha
  obtain ⟨s, c⟩ := x
  obtain rfl := VR_str h1
  obtain rfl := VR_str h2
  have hF : internal_stringslite_Index.f s c r := hF
  unfold internal_stringslite_Index.f at hF
  by_cases hc : c.size = 1
  · rw [if_pos hc] at hF
    obtain rfl : r = _ := hF
    obtain ⟨b, rfl⟩ : ∃ b, c = ⟨#[b]⟩ := by
      obtain ⟨⟨l⟩⟩ := c
      match l, hc with
      | [b], _ => exact ⟨b, rfl⟩
    refine (Tryz.stringslite_Index_one s b w).mono fun e w' ⟨he, hw⟩ => ⟨_, he, by subst hw; exact Grows.refl _, ?_⟩
    have e1 : idxN (toN s) ((toN ⟨#[b]⟩).getD 0 0) = Lib.indexByte s.data.toList b := idx_map s.data.toList b
    rw [e1]
    exact vr_int _
  · rw [if_neg hc] at hF; exact hF.elim

/-! ### strings.Index internal/stringslite.Index -/
-- import Derived.Test.YtbapeilokmphdaaGreatDoorSH
theorem strings_Index.ok : Ctr Tryz.prog globs 102 strings_Index.ent := by
  refine ⟨⟨_, Tryz.func102, rfl, rfl⟩, fun X x r w vs hL hg hX ha hF => ?_⟩
  obtain ⟨v1, _, rfl, h1, v2, rfl, h2⟩ := ha
  obtain ⟨s, c⟩ := x
  obtain rfl := VR_str h1
  obtain rfl := VR_str h2
  have hF : internal_stringslite_Index.f s c r := hF
  unfold internal_stringslite_Index.f at hF
  by_cases hc : c.size = 1
  · rw [if_pos hc] at hF
    obtain rfl : r = _ := hF
    obtain ⟨b, rfl⟩ : ∃ b, c = ⟨#[b]⟩ := by
      obtain ⟨⟨l⟩⟩ := c
      match l, hc with
      | [b], _ => exact ⟨b, rfl⟩
    refine (Tryz.strings_Index_one s b w).mono fun e w' ⟨he, hw⟩ => ⟨_, he, by subst hw; exact Grows.refl _, ?_⟩
    have e1 : idxN (toN s) ((toN ⟨#[b]⟩).getD 0 0) = Lib.indexByte s.data.toList b := idx_map s.data.toList b
    rw [e1]
    exact vr_int _
  · rw [if_neg hc] at hF; exact hF.elim

/-! ### internal/stringslite.Clone -/
-- import Derived.Test.YtbapeilokmphdaaGreatDoorSH
theorem internal_stringslite_Clone.ok : Ctr Tryz.prog globs 106 internal_stringslite_Clone.ent := by
  refine ⟨⟨_, Tryz.func106, rfl, rfl⟩, fun X x r w vs hL hg hX ha hF => ?_⟩
  obtain ⟨v1, rfl, h1⟩ := ha
  obtain rfl := VR_str h1
  have hF : internal_stringslite_Clone.f x r := hF
  unfold internal_stringslite_Clone.f at hF
  by_cases hc : x.size ≤ 281474976710656
  · rw [if_pos hc] at hF
    obtain rfl : r = x := hF
    exact (Tryz.stringslite_Clone r w hc).mono fun e w' ⟨he, hw⟩ => ⟨_, he, Grows.of_below hw, vr_str _⟩
  · rw [if_neg hc] at hF; exact hF.elim
end Go.Proofs.YtbapeilokmphdaaGreatDoor.F
