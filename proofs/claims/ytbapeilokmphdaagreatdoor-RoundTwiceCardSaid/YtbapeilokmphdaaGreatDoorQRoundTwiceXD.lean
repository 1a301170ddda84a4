/- Functions that are told by hand: what they come to. -/
import Derived.Test.YtbapeilokmphdaaGreatDoorQRoundTwiceN0
namespace Go.Proofs.YtbapeilokmphdaaGreatDoor.F
open Go Go.Proofs.YtbapeilokmphdaaGreatDoor.E
set_option linter.unusedVariables false
/-! texts as lists of numbers -/
def toN (s : ByteArray) : List Nat := s.data.toList.map UInt8.toNat
def S (l : List Nat) : ByteArray := ⟨(l.map UInt8.ofNat).toArray⟩
theorem S_toN (s : ByteArray) : S (toN s) = s := by
  obtain ⟨⟨l⟩⟩ := s
  unfold S toN
  congr 2
  rw [List.map_map]
  have : ∀ l : List UInt8, l.map (UInt8.ofNat ∘ UInt8.toNat) = l := fun l => by
    induction l with
    | nil => rfl
    | cons x l ih => rw [List.map_cons, ih]; simp
  exact this l
theorem toN_S {l : List Nat} (h : Dg 256 l) : toN (S l) = l := by
  unfold S toN
  simp only [List.map_map]
  induction l with
  | nil => rfl
  | cons x l ih =>
    rw [List.map_cons, ih h.tail]
    congr 1
    have := h.head
    simp [UInt8.toNat_ofNat']
    omega
theorem toN_dg (s : ByteArray) : Dg 256 (toN s) := fun x hx => by
  obtain ⟨b, _, rfl⟩ := List.mem_map.mp hx
  exact UInt8.toNat_lt b
/-- The decimals of a number, the greatest first; none of 0. -/
def decs0 (n : Nat) : List Nat := (dg 10 n).reverse.map (48 + ·)
def decs (n : Nat) : List Nat := if n = 0 then [48] else decs0 n
/-! ### numerary/digits.plain -/
def cutAt : Nat → Code → Code
  | 0, .seq a _ => a
  | n + 1, .seq _ b => cutAt n b
  | _, c => c
def cutTail : Nat → Code → Code
  | 0, c => c
  | n + 1, .seq _ b => cutTail n b
  | _, c => c
def onlyN {ρ : Type} (K : St → M ρ) : Kont ρ := fun e st => match e with
  | .normal => K st
  | _ => M.none
def cutQ (t : Nat) (ty : Ty) : Kont (List ty.D) := onlyN fun st => match st.s t with
  | .row d => match st.m d with
    | .own true a l => if h : a = ty then M.ret (castD (congrArg Ty.lst h) l) else M.none
    | _ => M.none
  | _ => M.none
/-- Texts one behind the other, the last one first. -/
def joinL (l : List ByteArray) : List UInt8 := (l.reverse.map fun s => s.data.toList).flatten
def joined (l : List ByteArray) : M ByteArray := if (joinL l).length ≤ 140737488355328 then M.ret ⟨(joinL l).toArray⟩ else M.none
/-! ### strings.TrimLeft -/
noncomputable def strings_TrimLeft.f (s c : ByteArray) : M ByteArray := if c = (⟨#[48]⟩ : ByteArray) then M.ret (S ((toN s).dropWhile (· == 48))) else M.none
noncomputable def strings_TrimLeft.ent : FnE := .plain (.pair .str .str) .str false fun x => strings_TrimLeft.f x.1 x.2
/-! ### strings.TrimRight -/
noncomputable def strings_TrimRight.f (s c : ByteArray) : M ByteArray := if c = (⟨#[48]⟩ : ByteArray) ∧ s.size ≤ 9223372036854775807 then M.ret (S ((toN s).reverse.dropWhile (· == 48)).reverse) else M.none
noncomputable def strings_TrimRight.ent : FnE := .plain (.pair .str .str) .str false fun x => strings_TrimRight.f x.1 x.2
/-! ### strings.Repeat -/
noncomputable def strings_Repeat.f (s : ByteArray) (c : Int) : M ByteArray := if s = (⟨#[48]⟩ : ByteArray) ∧ 0 ≤ c ∧ c ≤ 140737488355328 then M.ret (S (List.replicate c.toNat 48)) else M.none
noncomputable def strings_Repeat.ent : FnE := .plain (.pair .str (.int .i64)) .str false fun x => strings_Repeat.f x.1 x.2
/-! ### strconv.FormatUint -/
noncomputable def strconv_FormatUint.f (n b : Int) : M ByteArray := if b = 10 ∧ 0 ≤ n ∧ n < 18446744073709551616 then M.ret (S (decs n.toNat)) else M.none
noncomputable def strconv_FormatUint.ent : FnE := .plain (.pair (.int .u64) (.int .i64)) .str false fun x => strconv_FormatUint.f x.1 x.2
/-! ### strconv.Itoa -/
noncomputable def strconv_Itoa.f (n : Int) : M ByteArray := if 0 ≤ n ∧ n ≤ 9223372036854775807 then M.ret (S (decs n.toNat)) else M.none
noncomputable def strconv_Itoa.ent : FnE := .plain (.int .i64) .str false fun x => strconv_Itoa.f x
/-! ### strconv.ParseUint -/
noncomputable def strconv_ParseUint.f (s : ByteArray) (b k : Int) : M (Int × Unit) := if b = 10 ∧ k = 64 ∧ (toN s).all (fun c => decide (48 ≤ c) && decide (c ≤ 57)) = true ∧ (toN s).length ≤ 18 ∧ toN s ≠ [] then M.ret (((val 10 ((toN s).reverse.map (· - 48)) : Nat) : Int), ()) else M.none
noncomputable def strconv_ParseUint.ent : FnE := .plain (.pair .str (.pair (.int .i64) (.int .i64))) (.pair (.int .u64) .any) true fun x => strconv_ParseUint.f x.1 x.2.1 x.2.2
/-! ### internal/stringslite.Index -/
def idxN : List Nat → Nat → Int
  | [], _ => -1
  | b :: l, c => if b = c then 0 else if idxN l c = -1 then -1 else idxN l c + 1
noncomputable def internal_stringslite_Index.f (s c : ByteArray) : M Int := if c.size = 1 then M.ret (idxN (toN s) ((toN c).getD 0 0)) else M.none
noncomputable def internal_stringslite_Index.ent : FnE := .plain (.pair .str .str) (.int .i64) false fun x => internal_stringslite_Index.f x.1 x.2
/-! ### strings.Index internal/stringslite.Index -/
noncomputable def strings_Index.f (s c : ByteArray) : M Int := internal_stringslite_Index.f s c
noncomputable def strings_Index.ent : FnE := .plain (.pair .str .str) (.int .i64) false fun x => strings_Index.f x.1 x.2
/-! ### internal/stringslite.Clone -/
noncomputable def internal_stringslite_Clone.f (s : ByteArray) : M ByteArray := if s.size ≤ 281474976710656 then M.ret s else M.none
noncomputable def internal_stringslite_Clone.ent : FnE := .plain .str .str false fun x => internal_stringslite_Clone.f x
end Go.Proofs.YtbapeilokmphdaaGreatDoor.F
