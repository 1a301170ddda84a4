/- Functions that are told by hand: what they come to. -/
import Derived.Test.YtlnbcpcnpofnoaaGreatDoorQCondMovesN0
namespace Go.Proofs.YtlnbcpcnpofnoaaGreatDoor.F
open Go Go.Proofs.YtlnbcpcnpofnoaaGreatDoor.E
set_option linter.unusedVariables false
/-! texts as lists of numbers -/
def toN (s : ByteArray) : List Nat := s.data.toList.map UInt8.toNat
def S (l : List Nat) : ByteArray := ⟨(l.map UInt8.ofNat).toArray⟩
theorem S_toN (s : ByteArray) : S (toN s) = s := by
  obtain ⟨⟨l⟩⟩ := s
  unfold S toN
  congr 2
  rw [List.map_map]
  have : ∀ l : List UInt8, l.map (UInt8.ofNat ∘ UInt8.toNat) = l := fun l => by
    induction l with
    | nil => rfl
    | cons x l ih => rw [List.map_cons, ih]; simp
  exact this l
theorem toN_S {l : List Nat} (h : Dg 256 l) : toN (S l) = l := by
  unfold S toN
  simp only [List.map_map]
  induction l with
  | nil => rfl
  | cons x l ih =>
    rw [List.map_cons, ih h.tail]
    congr 1
    have := h.head
    simp [UInt8.toNat_ofNat']
    omega
theorem toN_dg (s : ByteArray) : Dg 256 (toN s) := fun x hx => by
  obtain ⟨b, _, rfl⟩ := List.mem_map.mp hx
  exact UInt8.toNat_lt b
/-- The decimals of a number, the greatest first; none of 0. -/
def decs0 (n : Nat) : List Nat := (dg 10 n).reverse.map (48 + ·)
def decs (n : Nat) : List Nat := if n = 0 then [48] else decs0 n
/-! ### strings.TrimLeft -/
noncomputable def strings_TrimLeft.f (s c : ByteArray) : M ByteArray := if c = (⟨#[48]⟩ : ByteArray) then M.ret (S ((toN s).dropWhile (· == 48))) else M.none
noncomputable def strings_TrimLeft.ent : FnE := .plain (.pair .str .str) .str false fun x => strings_TrimLeft.f x.1 x.2
/-! ### strings.TrimRight -/
noncomputable def strings_TrimRight.f (s c : ByteArray) : M ByteArray := if c = (⟨#[48]⟩ : ByteArray) ∧ s.size ≤ 9223372036854775807 then M.ret (S ((toN s).reverse.dropWhile (· == 48)).reverse) else M.none
noncomputable def strings_TrimRight.ent : FnE := .plain (.pair .str .str) .str false fun x => strings_TrimRight.f x.1 x.2
/-! ### strconv.Itoa -/
noncomputable def strconv_Itoa.f (n : Int) : M ByteArray := if 0 ≤ n ∧ n ≤ 9223372036854775807 then M.ret (S (decs n.toNat)) else M.none
noncomputable def strconv_Itoa.ent : FnE := .plain (.int .i64) .str false fun x => strconv_Itoa.f x
/-! ### strconv.ParseUint -/
noncomputable def strconv_ParseUint.f (s : ByteArray) (b k : Int) : M (Int × Unit) := if b = 10 ∧ k = 64 ∧ (toN s).all (fun c => decide (48 ≤ c) && decide (c ≤ 57)) = true ∧ (toN s).length ≤ 18 ∧ toN s ≠ [] then M.ret (((val 10 ((toN s).reverse.map (· - 48)) : Nat) : Int), ()) else M.none
noncomputable def strconv_ParseUint.ent : FnE := .plain (.pair .str (.pair (.int .i64) (.int .i64))) (.pair (.int .u64) .any) true fun x => strconv_ParseUint.f x.1 x.2.1 x.2.2
/-! ### internal/stringslite.Index -/
def idxN : List Nat → Nat → Int
  | [], _ => -1
  | b :: l, c => if b = c then 0 else if idxN l c = -1 then -1 else idxN l c + 1
noncomputable def internal_stringslite_Index.f (s c : ByteArray) : M Int := if c.size = 1 then M.ret (idxN (toN s) ((toN c).getD 0 0)) else M.none
noncomputable def internal_stringslite_Index.ent : FnE := .plain (.pair .str .str) (.int .i64) false fun x => internal_stringslite_Index.f x.1 x.2
/-! ### internal/stringslite.Clone -/
noncomputable def internal_stringslite_Clone.f (s : ByteArray) : M ByteArray := if s.size ≤ 281474976710656 then M.ret s else M.none
noncomputable def internal_stringslite_Clone.ent : FnE := .plain .str .str false fun x => internal_stringslite_Clone.f x
end Go.Proofs.YtlnbcpcnpofnoaaGreatDoor.F
