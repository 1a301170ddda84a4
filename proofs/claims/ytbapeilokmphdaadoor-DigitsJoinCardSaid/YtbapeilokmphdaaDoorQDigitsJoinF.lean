import Derived.Test.YtbapeilokmphdaaDoorQDigitsJoinXD
import Derived.Test.YtbapeilokmphdaaDoorQDigitsJoinN0
import Derived.Test.YtbapeilokmphdaaDoorProg
import Derived.KernelRfl
namespace Go.Proofs.YtbapeilokmphdaaDoor.F
open Go Go.Proofs Go.Proofs.YtbapeilokmphdaaDoor.E
set_option linter.unusedVariables false
def tys : TypeId → TI := tyIf 3 (.int .i64) (tyIf 5 (.int .u8) (tyIf 9 (.str) (tyIf 22 (.slice 61 (.int .u32) 1 4) (tyIf 24 (.struct [(0, 1)] 1 [.t .nil ()]) (tyIf 26 (.struct [(0, 1), (1, 1)] 2 [.t .nil (), .t .nil ()]) (tyIf 32 (.struct [(0, 1), (1, 1)] 2 [.t .str ByteArray.empty, .t .str ByteArray.empty]) (tyIf 35 (.slice 5 (.int .u8) 1 1) (tyIf 39 (.int .u64) (tyIf 61 (.int .u32) (tyIf 64 (.struct [(0, 1), (1, 1)] 2 [.t .str ByteArray.empty, .t (.int .i64) 0]) (tyIf 91 (.unk) (tyIf 94 (.plain) (tyIf 139 (.slice 9 .str 1 16) (fun _ => .unk))))))))))))))
def eqs : TypeId → Option Ty := fun i => bif Nat.beq i 32 then some (.pair .str .str) else (bif Nat.beq i 64 then some (.pair .str (.int .i64)) else (none))
def tab7 : List Int := [0, 1, 28, 2, 29, 14, 24, 3, 30, 22, 20, 15, 25, 17, 4, 8, 31, 27, 13, 23, 21, 19, 16, 7, 26, 12, 18, 6, 11, 5, 10, 9]
def tab8 : List Int := [0, 1, 56, 2, 57, 49, 28, 3, 61, 58, 42, 50, 38, 29, 17, 4, 62, 47, 59, 36, 45, 43, 51, 22, 53, 39, 33, 30, 24, 18, 12, 5, 63, 55, 48, 27, 60, 41, 37, 16, 46, 35, 44, 21, 52, 32, 23, 11, 54, 26, 40, 15, 34, 20, 31, 10, 25, 14, 19, 9, 13, 8, 7, 6]
def tab6 : List Int := [1, 10, 100, 1000, 10000, 100000, 1000000, 10000000, 100000000, 1000000000, 10000000000, 100000000000, 1000000000000, 10000000000000, 100000000000000, 1000000000000000, 10000000000000000, 100000000000000000, 1000000000000000000, 10000000000000000000]
def globs : Nat → Option (IntKind × List Int) := fun i => bif Nat.beq i 7 then some (.u8, tab7) else (bif Nat.beq i 8 then some (.u8, tab8) else (bif Nat.beq i 6 then some (.u64, tab6) else (none)))
/-! ### mbits_Len32 -/
noncomputable def mbits_Len32.Γ : Ctx := ⟨tys, fun f => none, globs, eqs⟩
def mbits_Len32.A : Live := fun i => none
noncomputable def mbits_Len32.f (a0 : Int) : M Int := evFn mbits_Len32.Γ mbits_Len32.A Tryd.f47 (.int .u32) (.int .i64) a0
noncomputable def mbits_Len32.ent : FnE := .plain (.int .u32) (.int .i64) false fun x => mbits_Len32.f x
theorem mbits_Len32.f_eq {a0 : Int} : mbits_Len32.f a0 =
    (if a0 ≥ 65536 then (if (a0.fdiv (2 ^ 16)) ≥ 256 then (if 0 ≤ (IntKind.u8.wrap ((a0.fdiv (2 ^ 16)).fdiv (2 ^ 8))) then (if (IntKind.u8.wrap ((a0.fdiv (2 ^ 16)).fdiv (2 ^ 8))) < ((⟨#[0, 1, 2, 2, 3, 3, 3, 3, 4, 4, 4, 4, 4, 4, 4, 4, 5, 5, 5, 5, 5, 5, 5, 5, 5, 5, 5, 5, 5, 5, 5, 5, 6, 6, 6, 6, 6, 6, 6, 6, 6, 6, 6, 6, 6, 6, 6, 6, 6, 6, 6, 6, 6, 6, 6, 6, 6, 6, 6, 6, 6, 6, 6, 6, 7, 7, 7, 7, 7, 7, 7, 7, 7, 7, 7, 7, 7, 7, 7, 7, 7, 7, 7, 7, 7, 7, 7, 7, 7, 7, 7, 7, 7, 7, 7, 7, 7, 7, 7, 7, 7, 7, 7, 7, 7, 7, 7, 7, 7, 7, 7, 7, 7, 7, 7, 7, 7, 7, 7, 7, 7, 7, 7, 7, 7, 7, 7, 7, 8, 8, 8, 8, 8, 8, 8, 8, 8, 8, 8, 8, 8, 8, 8, 8, 8, 8, 8, 8, 8, 8, 8, 8, 8, 8, 8, 8, 8, 8, 8, 8, 8, 8, 8, 8, 8, 8, 8, 8, 8, 8, 8, 8, 8, 8, 8, 8, 8, 8, 8, 8, 8, 8, 8, 8, 8, 8, 8, 8, 8, 8, 8, 8, 8, 8, 8, 8, 8, 8, 8, 8, 8, 8, 8, 8, 8, 8, 8, 8, 8, 8, 8, 8, 8, 8, 8, 8, 8, 8, 8, 8, 8, 8, 8, 8, 8, 8, 8, 8, 8, 8, 8, 8, 8, 8, 8, 8, 8, 8, 8, 8, 8, 8, 8, 8, 8, 8, 8, 8, 8, 8, 8, 8, 8, 8, 8, 8]⟩ : ByteArray).size : Int) then (M.ret (IntKind.i64.wrap ((IntKind.i64.wrap (16 + 8)) + (IntKind.i64.wrap (byteAt (⟨#[0, 1, 2, 2, 3, 3, 3, 3, 4, 4, 4, 4, 4, 4, 4, 4, 5, 5, 5, 5, 5, 5, 5, 5, 5, 5, 5, 5, 5, 5, 5, 5, 6, 6, 6, 6, 6, 6, 6, 6, 6, 6, 6, 6, 6, 6, 6, 6, 6, 6, 6, 6, 6, 6, 6, 6, 6, 6, 6, 6, 6, 6, 6, 6, 7, 7, 7, 7, 7, 7, 7, 7, 7, 7, 7, 7, 7, 7, 7, 7, 7, 7, 7, 7, 7, 7, 7, 7, 7, 7, 7, 7, 7, 7, 7, 7, 7, 7, 7, 7, 7, 7, 7, 7, 7, 7, 7, 7, 7, 7, 7, 7, 7, 7, 7, 7, 7, 7, 7, 7, 7, 7, 7, 7, 7, 7, 7, 7, 8, 8, 8, 8, 8, 8, 8, 8, 8, 8, 8, 8, 8, 8, 8, 8, 8, 8, 8, 8, 8, 8, 8, 8, 8, 8, 8, 8, 8, 8, 8, 8, 8, 8, 8, 8, 8, 8, 8, 8, 8, 8, 8, 8, 8, 8, 8, 8, 8, 8, 8, 8, 8, 8, 8, 8, 8, 8, 8, 8, 8, 8, 8, 8, 8, 8, 8, 8, 8, 8, 8, 8, 8, 8, 8, 8, 8, 8, 8, 8, 8, 8, 8, 8, 8, 8, 8, 8, 8, 8, 8, 8, 8, 8, 8, 8, 8, 8, 8, 8, 8, 8, 8, 8, 8, 8, 8, 8, 8, 8, 8, 8, 8, 8, 8, 8, 8, 8, 8, 8, 8, 8, 8, 8, 8, 8, 8, 8]⟩ : ByteArray) (IntKind.u8.wrap ((a0.fdiv (2 ^ 16)).fdiv (2 ^ 8)))))))) else M.none) else M.none) else (if 0 ≤ (IntKind.u8.wrap (a0.fdiv (2 ^ 16))) then (if (IntKind.u8.wrap (a0.fdiv (2 ^ 16))) < ((⟨#[0, 1, 2, 2, 3, 3, 3, 3, 4, 4, 4, 4, 4, 4, 4, 4, 5, 5, 5, 5, 5, 5, 5, 5, 5, 5, 5, 5, 5, 5, 5, 5, 6, 6, 6, 6, 6, 6, 6, 6, 6, 6, 6, 6, 6, 6, 6, 6, 6, 6, 6, 6, 6, 6, 6, 6, 6, 6, 6, 6, 6, 6, 6, 6, 7, 7, 7, 7, 7, 7, 7, 7, 7, 7, 7, 7, 7, 7, 7, 7, 7, 7, 7, 7, 7, 7, 7, 7, 7, 7, 7, 7, 7, 7, 7, 7, 7, 7, 7, 7, 7, 7, 7, 7, 7, 7, 7, 7, 7, 7, 7, 7, 7, 7, 7, 7, 7, 7, 7, 7, 7, 7, 7, 7, 7, 7, 7, 7, 8, 8, 8, 8, 8, 8, 8, 8, 8, 8, 8, 8, 8, 8, 8, 8, 8, 8, 8, 8, 8, 8, 8, 8, 8, 8, 8, 8, 8, 8, 8, 8, 8, 8, 8, 8, 8, 8, 8, 8, 8, 8, 8, 8, 8, 8, 8, 8, 8, 8, 8, 8, 8, 8, 8, 8, 8, 8, 8, 8, 8, 8, 8, 8, 8, 8, 8, 8, 8, 8, 8, 8, 8, 8, 8, 8, 8, 8, 8, 8, 8, 8, 8, 8, 8, 8, 8, 8, 8, 8, 8, 8, 8, 8, 8, 8, 8, 8, 8, 8, 8, 8, 8, 8, 8, 8, 8, 8, 8, 8, 8, 8, 8, 8, 8, 8, 8, 8, 8, 8, 8, 8, 8, 8, 8, 8, 8, 8]⟩ : ByteArray).size : Int) then (M.ret (IntKind.i64.wrap (16 + (IntKind.i64.wrap (byteAt (⟨#[0, 1, 2, 2, 3, 3, 3, 3, 4, 4, 4, 4, 4, 4, 4, 4, 5, 5, 5, 5, 5, 5, 5, 5, 5, 5, 5, 5, 5, 5, 5, 5, 6, 6, 6, 6, 6, 6, 6, 6, 6, 6, 6, 6, 6, 6, 6, 6, 6, 6, 6, 6, 6, 6, 6, 6, 6, 6, 6, 6, 6, 6, 6, 6, 7, 7, 7, 7, 7, 7, 7, 7, 7, 7, 7, 7, 7, 7, 7, 7, 7, 7, 7, 7, 7, 7, 7, 7, 7, 7, 7, 7, 7, 7, 7, 7, 7, 7, 7, 7, 7, 7, 7, 7, 7, 7, 7, 7, 7, 7, 7, 7, 7, 7, 7, 7, 7, 7, 7, 7, 7, 7, 7, 7, 7, 7, 7, 7, 8, 8, 8, 8, 8, 8, 8, 8, 8, 8, 8, 8, 8, 8, 8, 8, 8, 8, 8, 8, 8, 8, 8, 8, 8, 8, 8, 8, 8, 8, 8, 8, 8, 8, 8, 8, 8, 8, 8, 8, 8, 8, 8, 8, 8, 8, 8, 8, 8, 8, 8, 8, 8, 8, 8, 8, 8, 8, 8, 8, 8, 8, 8, 8, 8, 8, 8, 8, 8, 8, 8, 8, 8, 8, 8, 8, 8, 8, 8, 8, 8, 8, 8, 8, 8, 8, 8, 8, 8, 8, 8, 8, 8, 8, 8, 8, 8, 8, 8, 8, 8, 8, 8, 8, 8, 8, 8, 8, 8, 8, 8, 8, 8, 8, 8, 8, 8, 8, 8, 8, 8, 8, 8, 8, 8, 8, 8, 8]⟩ : ByteArray) (IntKind.u8.wrap (a0.fdiv (2 ^ 16)))))))) else M.none) else M.none)) else (if a0 ≥ 256 then (if 0 ≤ (IntKind.u8.wrap (a0.fdiv (2 ^ 8))) then (if (IntKind.u8.wrap (a0.fdiv (2 ^ 8))) < ((⟨#[0, 1, 2, 2, 3, 3, 3, 3, 4, 4, 4, 4, 4, 4, 4, 4, 5, 5, 5, 5, 5, 5, 5, 5, 5, 5, 5, 5, 5, 5, 5, 5, 6, 6, 6, 6, 6, 6, 6, 6, 6, 6, 6, 6, 6, 6, 6, 6, 6, 6, 6, 6, 6, 6, 6, 6, 6, 6, 6, 6, 6, 6, 6, 6, 7, 7, 7, 7, 7, 7, 7, 7, 7, 7, 7, 7, 7, 7, 7, 7, 7, 7, 7, 7, 7, 7, 7, 7, 7, 7, 7, 7, 7, 7, 7, 7, 7, 7, 7, 7, 7, 7, 7, 7, 7, 7, 7, 7, 7, 7, 7, 7, 7, 7, 7, 7, 7, 7, 7, 7, 7, 7, 7, 7, 7, 7, 7, 7, 8, 8, 8, 8, 8, 8, 8, 8, 8, 8, 8, 8, 8, 8, 8, 8, 8, 8, 8, 8, 8, 8, 8, 8, 8, 8, 8, 8, 8, 8, 8, 8, 8, 8, 8, 8, 8, 8, 8, 8, 8, 8, 8, 8, 8, 8, 8, 8, 8, 8, 8, 8, 8, 8, 8, 8, 8, 8, 8, 8, 8, 8, 8, 8, 8, 8, 8, 8, 8, 8, 8, 8, 8, 8, 8, 8, 8, 8, 8, 8, 8, 8, 8, 8, 8, 8, 8, 8, 8, 8, 8, 8, 8, 8, 8, 8, 8, 8, 8, 8, 8, 8, 8, 8, 8, 8, 8, 8, 8, 8, 8, 8, 8, 8, 8, 8, 8, 8, 8, 8, 8, 8, 8, 8, 8, 8, 8, 8]⟩ : ByteArray).size : Int) then (M.ret (IntKind.i64.wrap ((IntKind.i64.wrap (0 + 8)) + (IntKind.i64.wrap (byteAt (⟨#[0, 1, 2, 2, 3, 3, 3, 3, 4, 4, 4, 4, 4, 4, 4, 4, 5, 5, 5, 5, 5, 5, 5, 5, 5, 5, 5, 5, 5, 5, 5, 5, 6, 6, 6, 6, 6, 6, 6, 6, 6, 6, 6, 6, 6, 6, 6, 6, 6, 6, 6, 6, 6, 6, 6, 6, 6, 6, 6, 6, 6, 6, 6, 6, 7, 7, 7, 7, 7, 7, 7, 7, 7, 7, 7, 7, 7, 7, 7, 7, 7, 7, 7, 7, 7, 7, 7, 7, 7, 7, 7, 7, 7, 7, 7, 7, 7, 7, 7, 7, 7, 7, 7, 7, 7, 7, 7, 7, 7, 7, 7, 7, 7, 7, 7, 7, 7, 7, 7, 7, 7, 7, 7, 7, 7, 7, 7, 7, 8, 8, 8, 8, 8, 8, 8, 8, 8, 8, 8, 8, 8, 8, 8, 8, 8, 8, 8, 8, 8, 8, 8, 8, 8, 8, 8, 8, 8, 8, 8, 8, 8, 8, 8, 8, 8, 8, 8, 8, 8, 8, 8, 8, 8, 8, 8, 8, 8, 8, 8, 8, 8, 8, 8, 8, 8, 8, 8, 8, 8, 8, 8, 8, 8, 8, 8, 8, 8, 8, 8, 8, 8, 8, 8, 8, 8, 8, 8, 8, 8, 8, 8, 8, 8, 8, 8, 8, 8, 8, 8, 8, 8, 8, 8, 8, 8, 8, 8, 8, 8, 8, 8, 8, 8, 8, 8, 8, 8, 8, 8, 8, 8, 8, 8, 8, 8, 8, 8, 8, 8, 8, 8, 8, 8, 8, 8, 8]⟩ : ByteArray) (IntKind.u8.wrap (a0.fdiv (2 ^ 8)))))))) else M.none) else M.none) else (if 0 ≤ (IntKind.u8.wrap (a0)) then (if (IntKind.u8.wrap (a0)) < ((⟨#[0, 1, 2, 2, 3, 3, 3, 3, 4, 4, 4, 4, 4, 4, 4, 4, 5, 5, 5, 5, 5, 5, 5, 5, 5, 5, 5, 5, 5, 5, 5, 5, 6, 6, 6, 6, 6, 6, 6, 6, 6, 6, 6, 6, 6, 6, 6, 6, 6, 6, 6, 6, 6, 6, 6, 6, 6, 6, 6, 6, 6, 6, 6, 6, 7, 7, 7, 7, 7, 7, 7, 7, 7, 7, 7, 7, 7, 7, 7, 7, 7, 7, 7, 7, 7, 7, 7, 7, 7, 7, 7, 7, 7, 7, 7, 7, 7, 7, 7, 7, 7, 7, 7, 7, 7, 7, 7, 7, 7, 7, 7, 7, 7, 7, 7, 7, 7, 7, 7, 7, 7, 7, 7, 7, 7, 7, 7, 7, 8, 8, 8, 8, 8, 8, 8, 8, 8, 8, 8, 8, 8, 8, 8, 8, 8, 8, 8, 8, 8, 8, 8, 8, 8, 8, 8, 8, 8, 8, 8, 8, 8, 8, 8, 8, 8, 8, 8, 8, 8, 8, 8, 8, 8, 8, 8, 8, 8, 8, 8, 8, 8, 8, 8, 8, 8, 8, 8, 8, 8, 8, 8, 8, 8, 8, 8, 8, 8, 8, 8, 8, 8, 8, 8, 8, 8, 8, 8, 8, 8, 8, 8, 8, 8, 8, 8, 8, 8, 8, 8, 8, 8, 8, 8, 8, 8, 8, 8, 8, 8, 8, 8, 8, 8, 8, 8, 8, 8, 8, 8, 8, 8, 8, 8, 8, 8, 8, 8, 8, 8, 8, 8, 8, 8, 8, 8, 8]⟩ : ByteArray).size : Int) then (M.ret (IntKind.i64.wrap (0 + (IntKind.i64.wrap (byteAt (⟨#[0, 1, 2, 2, 3, 3, 3, 3, 4, 4, 4, 4, 4, 4, 4, 4, 5, 5, 5, 5, 5, 5, 5, 5, 5, 5, 5, 5, 5, 5, 5, 5, 6, 6, 6, 6, 6, 6, 6, 6, 6, 6, 6, 6, 6, 6, 6, 6, 6, 6, 6, 6, 6, 6, 6, 6, 6, 6, 6, 6, 6, 6, 6, 6, 7, 7, 7, 7, 7, 7, 7, 7, 7, 7, 7, 7, 7, 7, 7, 7, 7, 7, 7, 7, 7, 7, 7, 7, 7, 7, 7, 7, 7, 7, 7, 7, 7, 7, 7, 7, 7, 7, 7, 7, 7, 7, 7, 7, 7, 7, 7, 7, 7, 7, 7, 7, 7, 7, 7, 7, 7, 7, 7, 7, 7, 7, 7, 7, 8, 8, 8, 8, 8, 8, 8, 8, 8, 8, 8, 8, 8, 8, 8, 8, 8, 8, 8, 8, 8, 8, 8, 8, 8, 8, 8, 8, 8, 8, 8, 8, 8, 8, 8, 8, 8, 8, 8, 8, 8, 8, 8, 8, 8, 8, 8, 8, 8, 8, 8, 8, 8, 8, 8, 8, 8, 8, 8, 8, 8, 8, 8, 8, 8, 8, 8, 8, 8, 8, 8, 8, 8, 8, 8, 8, 8, 8, 8, 8, 8, 8, 8, 8, 8, 8, 8, 8, 8, 8, 8, 8, 8, 8, 8, 8, 8, 8, 8, 8, 8, 8, 8, 8, 8, 8, 8, 8, 8, 8, 8, 8, 8, 8, 8, 8, 8, 8, 8, 8, 8, 8, 8, 8, 8, 8, 8, 8]⟩ : ByteArray) (IntKind.u8.wrap (a0))))))) else M.none) else M.none))) := by kernel_rfl
/-! ### nat_Nat_Bits -/
noncomputable def nat_Nat_Bits.Γ : Ctx := ⟨tys, fun f => bif Nat.beq f 47 then some mbits_Len32.ent else (none), globs, eqs⟩
def nat_Nat_Bits.A : Live := fun i => none
noncomputable def nat_Nat_Bits.f (a0 : List Int) : M Int := evFn nat_Nat_Bits.Γ nat_Nat_Bits.A Tryd.f21 (.agg (.lst (.int .u32))) (.int .i64) a0
noncomputable def nat_Nat_Bits.ent : FnE := .plain (.agg (.lst (.int .u32))) (.int .i64) false fun x => nat_Nat_Bits.f x
theorem nat_Nat_Bits.f_eq {a0 : List Int} : nat_Nat_Bits.f a0 =
    (if (a0.length : Int) = 0 then (M.ret 0) else (if 0 ≤ (IntKind.i64.wrap ((a0.length : Int) - 1)) then (if (IntKind.i64.wrap ((a0.length : Int) - 1)) < (a0.length : Int) then (M.bind (mbits_Len32.f (rdI a0 (IntKind.i64.wrap ((a0.length : Int) - 1)))) fun t1 => (M.ret (IntKind.i64.wrap ((IntKind.i64.wrap (32 * (IntKind.i64.wrap ((a0.length : Int) - 1)))) + t1)))) else M.none) else M.none)) := by kernel_rfl
/-! ### slices_Clone_uint32_uint32 -/
noncomputable def slices_Clone_uint32_uint32.Γ : Ctx := ⟨tys, fun f => none, globs, eqs⟩
def slices_Clone_uint32_uint32.A : Live := fun i => none
noncomputable def slices_Clone_uint32_uint32.f (a0 : List Int) : M (List Int) := evFn slices_Clone_uint32_uint32.Γ slices_Clone_uint32_uint32.A Tryd.f31 (.lst (.int .u32)) (.lst (.int .u32)) a0
noncomputable def slices_Clone_uint32_uint32.ent : FnE := .plain (.lst (.int .u32)) (.lst (.int .u32)) false fun x => slices_Clone_uint32_uint32.f x
theorem slices_Clone_uint32_uint32.f_eq {a0 : List Int} : slices_Clone_uint32_uint32.f a0 =
    (M.nq (a0 = []) (M.ret ([] : List Int)) (if ([] : List Int).length + a0.length ≤ 1099511627776 then (M.ret (([] : List Int) ++ a0)) else M.none)) := by kernel_rfl
/-! ### nat_Made -/
noncomputable def nat_Made.Γ : Ctx := ⟨tys, fun f => bif Nat.beq f 31 then some slices_Clone_uint32_uint32.ent else (none), globs, eqs⟩
def nat_Made.l0.live : List (Nat × LK) := [(0, .val (.lst (.int .u32))), (2, .box [(.lst (.int .u32))]), (3, .val (.int .i64))]
def nat_Made.A : Live := fun i => bif Nat.beq i 4 then some nat_Made.l0.live else (none)
noncomputable def nat_Made.f (a0 : List Int) : M (List Int) := evFn nat_Made.Γ nat_Made.A Tryd.f8 (.lst (.int .u32)) (.agg (.lst (.int .u32))) a0
noncomputable def nat_Made.ent : FnE := .plain (.lst (.int .u32)) (.agg (.lst (.int .u32))) false fun x => nat_Made.f x
noncomputable def nat_Made.l0.c : Code × Kont (List Int) := focus nat_Made.Γ nat_Made.A (bodyOf Tryd.f8) (finQ nat_Made.Γ Tryd.f8.results.toList (.agg (.lst (.int .u32)))) [.r, .r, .l, .l]
noncomputable def nat_Made.l0 (x0 : List Int) (x2 : List Int) (x3 : Int) : M (List Int) := loopOf nat_Made.Γ nat_Made.A nat_Made.l0.live nat_Made.l0.c (x0, x2, x3)
theorem nat_Made.l0_eq {x0 : List Int} {x2 : List Int} {x3 : Int} :
    roundOf nat_Made.Γ nat_Made.A nat_Made.l0.live nat_Made.l0.c (loopOf nat_Made.Γ nat_Made.A nat_Made.l0.live nat_Made.l0.c) (x0, x2, x3) =
    (if x3 > 0 then (if 0 ≤ (IntKind.i64.wrap (x3 - 1)) then (if (IntKind.i64.wrap (x3 - 1)) < (x0.length : Int) then (if (rdI x0 (IntKind.i64.wrap (x3 - 1))) = 0 then (nat_Made.l0 x0 x2 (IntKind.i64.wrap (x3 - 1))) else (if 0 ≤ x3 then (if x3 ≤ (x0.length : Int) then (M.bind (slices_Clone_uint32_uint32.f (x0.take x3.toNat)) fun t1 => (M.ret t1)) else M.none) else M.none)) else M.none) else M.none) else (if 0 ≤ x3 then (if x3 ≤ (x0.length : Int) then (M.bind (slices_Clone_uint32_uint32.f (x0.take x3.toNat)) fun t2 => (M.ret t2)) else M.none) else M.none)) := by kernel_rfl
theorem nat_Made.f_eq {a0 : List Int} : nat_Made.f a0 =
    (nat_Made.l0 a0 ([] : List Int) (a0.length : Int)) := by kernel_rfl
/-! ### nat_Of -/
noncomputable def nat_Of.Γ : Ctx := ⟨tys, fun f => bif Nat.beq f 8 then some nat_Made.ent else (none), globs, eqs⟩
def nat_Of.A : Live := fun i => none
noncomputable def nat_Of.f (a0 : Int) : M (List Int) := evFn nat_Of.Γ nat_Of.A Tryd.f13 (.int .u64) (.agg (.lst (.int .u32))) a0
noncomputable def nat_Of.ent : FnE := .plain (.int .u64) (.agg (.lst (.int .u32))) false fun x => nat_Of.f x
theorem nat_Of.f_eq {a0 : Int} : nat_Of.f a0 =
    (M.bind (nat_Made.f ([IntKind.u32.wrap (a0), IntKind.u32.wrap (a0.fdiv (2 ^ 32))] : List Int)) fun t1 => (M.ret t1)) := by kernel_rfl
/-! ### nat_Nat_Limbs -/
noncomputable def nat_Nat_Limbs.Γ : Ctx := ⟨tys, fun f => bif Nat.beq f 31 then some slices_Clone_uint32_uint32.ent else (none), globs, eqs⟩
def nat_Nat_Limbs.A : Live := fun i => none
noncomputable def nat_Nat_Limbs.f (a0 : List Int) : M (List Int) := evFn nat_Nat_Limbs.Γ nat_Nat_Limbs.A Tryd.f39 (.agg (.lst (.int .u32))) (.lst (.int .u32)) a0
noncomputable def nat_Nat_Limbs.ent : FnE := .plain (.agg (.lst (.int .u32))) (.lst (.int .u32)) false fun x => nat_Nat_Limbs.f x
theorem nat_Nat_Limbs.f_eq {a0 : List Int} : nat_Nat_Limbs.f a0 =
    (M.bind (slices_Clone_uint32_uint32.f a0) fun t1 => (M.ret t1)) := by kernel_rfl
/-! ### mbits_Div32 -/
noncomputable def mbits_Div32.Γ : Ctx := ⟨tys, fun f => none, globs, eqs⟩
def mbits_Div32.A : Live := fun i => none
noncomputable def mbits_Div32.f (a0 : Int) (a1 : Int) (a2 : Int) : M (Int × Int) := evFn mbits_Div32.Γ mbits_Div32.A Tryd.f87 (.pair (.int .u32) (.pair (.int .u32) (.int .u32))) (.pair (.int .u32) (.int .u32)) (a0, a1, a2)
noncomputable def mbits_Div32.ent : FnE := .plain (.pair (.int .u32) (.pair (.int .u32) (.int .u32))) (.pair (.int .u32) (.int .u32)) true fun x => mbits_Div32.f x.1 x.2.1 x.2.2
theorem mbits_Div32.f_eq {a0 : Int} {a1 : Int} {a2 : Int} : mbits_Div32.f a0 a1 a2 =
    (if a2 ≠ 0 then (if a2 ≤ a0 then M.none else (if IntKind.u64.wrap (a2) ≠ 0 then (if IntKind.u64.wrap (a2) ≠ 0 then (M.ret (IntKind.u32.wrap (IntKind.u64.wrap ((IntKind.u64.wrap ((BitVec.ofInt IntKind.u64.bits (IntKind.u64.wrap ((IntKind.u64.wrap (a0)) * 2 ^ 32)) ||| BitVec.ofInt IntKind.u64.bits (IntKind.u64.wrap (a1))).toNat)).tdiv (IntKind.u64.wrap (a2)))), IntKind.u32.wrap ((IntKind.u64.wrap ((BitVec.ofInt IntKind.u64.bits (IntKind.u64.wrap ((IntKind.u64.wrap (a0)) * 2 ^ 32)) ||| BitVec.ofInt IntKind.u64.bits (IntKind.u64.wrap (a1))).toNat)).tmod (IntKind.u64.wrap (a2))))) else M.none) else M.none)) else (if IntKind.u64.wrap (a2) ≠ 0 then (if IntKind.u64.wrap (a2) ≠ 0 then (M.ret (IntKind.u32.wrap (IntKind.u64.wrap ((IntKind.u64.wrap ((BitVec.ofInt IntKind.u64.bits (IntKind.u64.wrap ((IntKind.u64.wrap (a0)) * 2 ^ 32)) ||| BitVec.ofInt IntKind.u64.bits (IntKind.u64.wrap (a1))).toNat)).tdiv (IntKind.u64.wrap (a2)))), IntKind.u32.wrap ((IntKind.u64.wrap ((BitVec.ofInt IntKind.u64.bits (IntKind.u64.wrap ((IntKind.u64.wrap (a0)) * 2 ^ 32)) ||| BitVec.ofInt IntKind.u64.bits (IntKind.u64.wrap (a1))).toNat)).tmod (IntKind.u64.wrap (a2))))) else M.none) else M.none)) := by kernel_rfl
/-! ### quot_small -/
noncomputable def quot_small.Γ : Ctx := ⟨tys, fun f => bif Nat.beq f 87 then some mbits_Div32.ent else (none), globs, eqs⟩
def quot_small.l0.live : List (Nat × LK) := [(0, .val (.lst (.int .u32))), (1, .val (.int .u32)), (6, .own true (.int .u32)), (7, .val (.int .u32)), (8, .val (.int .i64))]
def quot_small.A : Live := fun i => bif Nat.beq i 8 then some quot_small.l0.live else (none)
noncomputable def quot_small.f (a0 : List Int) (a1 : Int) : M ((List Int) × Int) := evFn quot_small.Γ quot_small.A Tryd.f69 (.pair (.lst (.int .u32)) (.int .u32)) (.pair (.lst (.int .u32)) (.int .u32)) (a0, a1)
noncomputable def quot_small.ent : FnE := .plain (.pair (.lst (.int .u32)) (.int .u32)) (.pair (.lst (.int .u32)) (.int .u32)) true fun x => quot_small.f x.1 x.2
noncomputable def quot_small.l0.c : Code × Kont ((List Int) × Int) := focus quot_small.Γ quot_small.A (bodyOf Tryd.f69) (finQ quot_small.Γ Tryd.f69.results.toList (.pair (.lst (.int .u32)) (.int .u32))) [.r, .r, .r, .l, .r, .l]
noncomputable def quot_small.l0 (x0 : List Int) (x1 : Int) (x6 : List Int) (x7 : Int) (x8 : Int) : M ((List Int) × Int) := loopOf quot_small.Γ quot_small.A quot_small.l0.live quot_small.l0.c (x0, x1, x6, x7, x8)
theorem quot_small.l0_eq {x0 : List Int} {x1 : Int} {x6 : List Int} {x7 : Int} {x8 : Int} :
    roundOf quot_small.Γ quot_small.A quot_small.l0.live quot_small.l0.c (loopOf quot_small.Γ quot_small.A quot_small.l0.live quot_small.l0.c) (x0, x1, x6, x7, x8) =
    (if x8 ≥ 0 then (if 0 ≤ x8 then (if x8 < (x0.length : Int) then (M.bind (mbits_Div32.f x7 (rdI x0 x8) x1) fun t1 => (if 0 ≤ x8 then (if x8 < (x6.length : Int) then (quot_small.l0 x0 x1 (x6.set x8.toNat t1.1) t1.2 (IntKind.i64.wrap (x8 - 1))) else M.none) else M.none)) else M.none) else M.none) else (M.ret (x6, x7))) := by kernel_rfl
theorem quot_small.f_eq {a0 : List Int} {a1 : Int} : quot_small.f a0 a1 =
    (if 0 ≤ (a0.length : Int) then (if (a0.length : Int) ≤ 1099511627776 then (quot_small.l0 a0 a1 (List.replicate (a0.length : Int).toNat (0 : Int)) 0 (IntKind.i64.wrap ((a0.length : Int) - 1))) else M.none) else M.none) := by kernel_rfl
/-! ### mbits_LeadingZeros32 -/
noncomputable def mbits_LeadingZeros32.Γ : Ctx := ⟨tys, fun f => bif Nat.beq f 47 then some mbits_Len32.ent else (none), globs, eqs⟩
def mbits_LeadingZeros32.A : Live := fun i => none
noncomputable def mbits_LeadingZeros32.f (a0 : Int) : M Int := evFn mbits_LeadingZeros32.Γ mbits_LeadingZeros32.A Tryd.f88 (.int .u32) (.int .i64) a0
noncomputable def mbits_LeadingZeros32.ent : FnE := .plain (.int .u32) (.int .i64) false fun x => mbits_LeadingZeros32.f x
theorem mbits_LeadingZeros32.f_eq {a0 : Int} : mbits_LeadingZeros32.f a0 =
    (M.bind (mbits_Len32.f a0) fun t1 => (M.ret (IntKind.i64.wrap (32 - t1)))) := by kernel_rfl
/-! ### quot_shifted -/
noncomputable def quot_shifted.Γ : Ctx := ⟨tys, fun f => none, globs, eqs⟩
def quot_shifted.l0.live : List (Nat × LK) := [(1, .val (.int .i64)), (5, .own true (.int .u32)), (12, .val (.lst (.int .u32))), (13, .val (.int .i64)), (14, .val (.int .i64))]
def quot_shifted.A : Live := fun i => bif Nat.beq i 6 then some quot_shifted.l0.live else (none)
noncomputable def quot_shifted.f (a0 : List Int) (a1 : Int) : M (List Int) := evFnOwn quot_shifted.Γ quot_shifted.A Tryd.f89 (.pair (.lst (.int .u32)) (.int .i64)) (.int .u32) (a0, a1)
noncomputable def quot_shifted.ent : FnE := .own (.pair (.lst (.int .u32)) (.int .i64)) (.int .u32) fun x => quot_shifted.f x.1 x.2
noncomputable def quot_shifted.l0.c : Code × Kont (List Int) := focus quot_shifted.Γ quot_shifted.A (bodyOf Tryd.f89) (finOwn Tryd.f89.results.toList (.int .u32)) [.r, .r, .l, .r, .l]
noncomputable def quot_shifted.l0 (x1 : Int) (x5 : List Int) (x12 : List Int) (x13 : Int) (x14 : Int) : M (List Int) := loopOf quot_shifted.Γ quot_shifted.A quot_shifted.l0.live quot_shifted.l0.c (x1, x5, x12, x13, x14)
theorem quot_shifted.l0_eq {x1 : Int} {x5 : List Int} {x12 : List Int} {x13 : Int} {x14 : Int} :
    roundOf quot_shifted.Γ quot_shifted.A quot_shifted.l0.live quot_shifted.l0.c (loopOf quot_shifted.Γ quot_shifted.A quot_shifted.l0.live quot_shifted.l0.c) (x1, x5, x12, x13, x14) =
    (if x14 < x13 then (if 0 ≤ x14 then (if x14 < (x12.length : Int) then (if 0 ≤ x14 then (if x14 < (x5.length : Int) then (if 0 ≤ x1 then (if 0 ≤ x14 then (if x14 < (x5.length : Int) then (if 0 ≤ x1 then (if 0 ≤ (IntKind.i64.wrap (x14 + 1)) then (if (IntKind.i64.wrap (x14 + 1)) < ((x5.set x14.toNat (IntKind.u32.wrap ((BitVec.ofInt IntKind.u32.bits (x5.getD x14.toNat 0) ||| BitVec.ofInt IntKind.u32.bits (IntKind.u32.wrap ((rdI x12 x14) * 2 ^ (min x1.toNat 32)))).toNat))).length : Int) then (quot_shifted.l0 x1 ((x5.set x14.toNat (IntKind.u32.wrap ((BitVec.ofInt IntKind.u32.bits (x5.getD x14.toNat 0) ||| BitVec.ofInt IntKind.u32.bits (IntKind.u32.wrap ((rdI x12 x14) * 2 ^ (min x1.toNat 32)))).toNat))).set ((IntKind.i64.wrap (x14 + 1)).toNat) (IntKind.u32.wrap ((IntKind.u64.wrap ((IntKind.u64.wrap (rdI x12 x14)) * 2 ^ (min x1.toNat 64))).fdiv (2 ^ 32)))) x12 x13 (IntKind.i64.wrap (x14 + 1))) else M.none) else M.none) else M.none) else M.none) else M.none) else M.none) else M.none) else M.none) else M.none) else M.none) else (M.ret x5)) := by kernel_rfl
theorem quot_shifted.f_eq {a0 : List Int} {a1 : Int} : quot_shifted.f a0 a1 =
    (if 0 ≤ (IntKind.i64.wrap ((a0.length : Int) + 1)) then (if (IntKind.i64.wrap ((a0.length : Int) + 1)) ≤ 1099511627776 then (quot_shifted.l0 a1 (List.replicate (IntKind.i64.wrap ((a0.length : Int) + 1)).toNat (0 : Int)) a0 (a0.length : Int) 0) else M.none) else M.none) := by kernel_rfl
/-! ### quot_guess -/
noncomputable def quot_guess.Γ : Ctx := ⟨tys, fun f => none, globs, eqs⟩
def quot_guess.l0.live : List (Nat × LK) := [(0, .val (.lst (.int .u32))), (1, .val (.lst (.int .u32))), (5, .val (.int .i64)), (7, .val (.int .u64)), (8, .val (.int .u64))]
def quot_guess.A : Live := fun i => bif Nat.beq i 8 then some quot_guess.l0.live else (none)
noncomputable def quot_guess.f (a0 : List Int) (a1 : List Int) : M Int := evFn quot_guess.Γ quot_guess.A Tryd.f90 (.pair (.lst (.int .u32)) (.lst (.int .u32))) (.int .u64) (a0, a1)
noncomputable def quot_guess.ent : FnE := .plain (.pair (.lst (.int .u32)) (.lst (.int .u32))) (.int .u64) false fun x => quot_guess.f x.1 x.2
noncomputable def quot_guess.l0.c : Code × Kont Int := focus quot_guess.Γ quot_guess.A (bodyOf Tryd.f90) (finQ quot_guess.Γ Tryd.f90.results.toList (.int .u64)) [.r, .r, .r, .r, .l, .l]
noncomputable def quot_guess.l0 (x0 : List Int) (x1 : List Int) (x5 : Int) (x7 : Int) (x8 : Int) : M Int := loopOf quot_guess.Γ quot_guess.A quot_guess.l0.live quot_guess.l0.c (x0, x1, x5, x7, x8)
theorem quot_guess.l0_eq {x0 : List Int} {x1 : List Int} {x5 : Int} {x7 : Int} {x8 : Int} :
    roundOf quot_guess.Γ quot_guess.A quot_guess.l0.live quot_guess.l0.c (loopOf quot_guess.Γ quot_guess.A quot_guess.l0.live quot_guess.l0.c) (x0, x1, x5, x7, x8) =
    (if x7 ≥ 4294967296 then (if 0 ≤ (IntKind.i64.wrap (x5 - 1)) then (if (IntKind.i64.wrap (x5 - 1)) < (x1.length : Int) then (if (IntKind.u64.wrap (x8 + (IntKind.u64.wrap (rdI x1 (IntKind.i64.wrap (x5 - 1)))))) ≥ 4294967296 then (M.ret (IntKind.u64.wrap (x7 - 1))) else (quot_guess.l0 x0 x1 x5 (IntKind.u64.wrap (x7 - 1)) (IntKind.u64.wrap (x8 + (IntKind.u64.wrap (rdI x1 (IntKind.i64.wrap (x5 - 1)))))))) else M.none) else M.none) else (if 0 ≤ (IntKind.i64.wrap (x5 - 2)) then (if (IntKind.i64.wrap (x5 - 2)) < (x1.length : Int) then (if 0 ≤ (IntKind.i64.wrap (x5 - 2)) then (if (IntKind.i64.wrap (x5 - 2)) < (x0.length : Int) then (if (IntKind.u64.wrap (x7 * (IntKind.u64.wrap (rdI x1 (IntKind.i64.wrap (x5 - 2)))))) > (IntKind.u64.wrap ((BitVec.ofInt IntKind.u64.bits (IntKind.u64.wrap (x8 * 2 ^ 32)) ||| BitVec.ofInt IntKind.u64.bits (IntKind.u64.wrap (rdI x0 (IntKind.i64.wrap (x5 - 2))))).toNat)) then (if 0 ≤ (IntKind.i64.wrap (x5 - 1)) then (if (IntKind.i64.wrap (x5 - 1)) < (x1.length : Int) then (if (IntKind.u64.wrap (x8 + (IntKind.u64.wrap (rdI x1 (IntKind.i64.wrap (x5 - 1)))))) ≥ 4294967296 then (M.ret (IntKind.u64.wrap (x7 - 1))) else (quot_guess.l0 x0 x1 x5 (IntKind.u64.wrap (x7 - 1)) (IntKind.u64.wrap (x8 + (IntKind.u64.wrap (rdI x1 (IntKind.i64.wrap (x5 - 1)))))))) else M.none) else M.none) else (M.ret x7)) else M.none) else M.none) else M.none) else M.none)) := by kernel_rfl
theorem quot_guess.f_eq {a0 : List Int} {a1 : List Int} : quot_guess.f a0 a1 =
    (if 0 ≤ (a1.length : Int) then (if (a1.length : Int) < (a0.length : Int) then (if 0 ≤ (IntKind.i64.wrap ((a1.length : Int) - 1)) then (if (IntKind.i64.wrap ((a1.length : Int) - 1)) < (a0.length : Int) then (if 0 ≤ (IntKind.i64.wrap ((a1.length : Int) - 1)) then (if (IntKind.i64.wrap ((a1.length : Int) - 1)) < (a1.length : Int) then (if IntKind.u64.wrap (rdI a1 (IntKind.i64.wrap ((a1.length : Int) - 1))) ≠ 0 then (if 0 ≤ (IntKind.i64.wrap ((a1.length : Int) - 1)) then (if (IntKind.i64.wrap ((a1.length : Int) - 1)) < (a1.length : Int) then (if IntKind.u64.wrap (rdI a1 (IntKind.i64.wrap ((a1.length : Int) - 1))) ≠ 0 then (quot_guess.l0 a0 a1 (a1.length : Int) (IntKind.u64.wrap ((IntKind.u64.wrap ((BitVec.ofInt IntKind.u64.bits (IntKind.u64.wrap ((IntKind.u64.wrap (rdI a0 (a1.length : Int))) * 2 ^ 32)) ||| BitVec.ofInt IntKind.u64.bits (IntKind.u64.wrap (rdI a0 (IntKind.i64.wrap ((a1.length : Int) - 1))))).toNat)).tdiv (IntKind.u64.wrap (rdI a1 (IntKind.i64.wrap ((a1.length : Int) - 1)))))) ((IntKind.u64.wrap ((BitVec.ofInt IntKind.u64.bits (IntKind.u64.wrap ((IntKind.u64.wrap (rdI a0 (a1.length : Int))) * 2 ^ 32)) ||| BitVec.ofInt IntKind.u64.bits (IntKind.u64.wrap (rdI a0 (IntKind.i64.wrap ((a1.length : Int) - 1))))).toNat)).tmod (IntKind.u64.wrap (rdI a1 (IntKind.i64.wrap ((a1.length : Int) - 1)))))) else M.none) else M.none) else M.none) else M.none) else M.none) else M.none) else M.none) else M.none) else M.none) else M.none) := by kernel_rfl
/-! ### mbits_Sub32 -/
noncomputable def mbits_Sub32.Γ : Ctx := ⟨tys, fun f => none, globs, eqs⟩
def mbits_Sub32.A : Live := fun i => none
noncomputable def mbits_Sub32.f (a0 : Int) (a1 : Int) (a2 : Int) : M (Int × Int) := evFn mbits_Sub32.Γ mbits_Sub32.A Tryd.f68 (.pair (.int .u32) (.pair (.int .u32) (.int .u32))) (.pair (.int .u32) (.int .u32)) (a0, a1, a2)
noncomputable def mbits_Sub32.ent : FnE := .plain (.pair (.int .u32) (.pair (.int .u32) (.int .u32))) (.pair (.int .u32) (.int .u32)) true fun x => mbits_Sub32.f x.1 x.2.1 x.2.2
theorem mbits_Sub32.f_eq {a0 : Int} {a1 : Int} {a2 : Int} : mbits_Sub32.f a0 a1 a2 =
    (M.ret (IntKind.u32.wrap ((IntKind.u32.wrap (a0 - a1)) - a2), (IntKind.u32.wrap ((BitVec.ofInt IntKind.u32.bits (IntKind.u32.wrap ((BitVec.ofInt IntKind.u32.bits (IntKind.u32.wrap ((BitVec.ofInt IntKind.u32.bits (4294967295) ^^^ BitVec.ofInt IntKind.u32.bits a0).toNat)) &&& BitVec.ofInt IntKind.u32.bits a1).toNat)) ||| BitVec.ofInt IntKind.u32.bits (IntKind.u32.wrap ((BitVec.ofInt IntKind.u32.bits (IntKind.u32.wrap ((BitVec.ofInt IntKind.u32.bits (4294967295) ^^^ BitVec.ofInt IntKind.u32.bits (IntKind.u32.wrap ((BitVec.ofInt IntKind.u32.bits a0 ^^^ BitVec.ofInt IntKind.u32.bits a1).toNat))).toNat)) &&& BitVec.ofInt IntKind.u32.bits (IntKind.u32.wrap ((IntKind.u32.wrap (a0 - a1)) - a2))).toNat))).toNat)).fdiv (2 ^ 31))) := by kernel_rfl
/-! ### quot_less -/
noncomputable def quot_less.Γ : Ctx := ⟨tys, fun f => bif Nat.beq f 68 then some mbits_Sub32.ent else (none), globs, eqs⟩
def quot_less.l0.live : List (Nat × LK) := [(0, .own false (.int .u32)), (1, .val (.lst (.int .u32))), (2, .val (.int .u64)), (7, .val (.int .u64)), (8, .val (.int .u32)), (11, .val (.lst (.int .u32))), (12, .val (.int .i64)), (13, .val (.int .i64))]
def quot_less.A : Live := fun i => bif Nat.beq i 6 then some quot_less.l0.live else (none)
noncomputable def quot_less.f (a0 : List Int) (a1 : List Int) (a2 : Int) : M (Bool × List Int) := evFnRow quot_less.Γ quot_less.A Tryd.f91 (.int .u32) (.pair (.lst (.int .u32)) (.int .u64)) .bool a0 (a1, a2)
noncomputable def quot_less.ent : FnE := .ioRow (.int .u32) (.pair (.lst (.int .u32)) (.int .u64)) .bool fun l x => quot_less.f l x.1 x.2
noncomputable def quot_less.l0.c : Code × Kont (Bool × List Int) := focus quot_less.Γ quot_less.A (bodyOf Tryd.f91) (finRow quot_less.Γ Tryd.f91.results.toList (.int .u32) .bool) [.r, .r, .l, .r, .l]
noncomputable def quot_less.l0 (x0 : List Int) (x1 : List Int) (x2 : Int) (x7 : Int) (x8 : Int) (x11 : List Int) (x12 : Int) (x13 : Int) : M (Bool × List Int) := loopOf quot_less.Γ quot_less.A quot_less.l0.live quot_less.l0.c (x0, x1, x2, x7, x8, x11, x12, x13)
theorem quot_less.l0_eq {x0 : List Int} {x1 : List Int} {x2 : Int} {x7 : Int} {x8 : Int} {x11 : List Int} {x12 : Int} {x13 : Int} :
    roundOf quot_less.Γ quot_less.A quot_less.l0.live quot_less.l0.c (loopOf quot_less.Γ quot_less.A quot_less.l0.live quot_less.l0.c) (x0, x1, x2, x7, x8, x11, x12, x13) =
    (if x13 < x12 then (if 0 ≤ x13 then (if x13 < (x11.length : Int) then (if 0 ≤ x13 then (if x13 < (x0.length : Int) then (M.bind (mbits_Sub32.f (x0.getD x13.toNat 0) (IntKind.u32.wrap (IntKind.u64.wrap (x7 + (IntKind.u64.wrap (x2 * (IntKind.u64.wrap (rdI x11 x13))))))) x8) fun t1 => (if 0 ≤ x13 then (if x13 < (x0.length : Int) then (quot_less.l0 (x0.set x13.toNat t1.1) x1 x2 ((IntKind.u64.wrap (x7 + (IntKind.u64.wrap (x2 * (IntKind.u64.wrap (rdI x11 x13)))))).fdiv (2 ^ 32)) t1.2 x11 x12 (IntKind.i64.wrap (x13 + 1))) else M.none) else M.none)) else M.none) else M.none) else M.none) else M.none) else (if 0 ≤ (x1.length : Int) then (if (x1.length : Int) < (x0.length : Int) then (M.bind (mbits_Sub32.f (x0.getD ((x1.length : Int).toNat) 0) (IntKind.u32.wrap (x7)) x8) fun t2 => (if 0 ≤ (x1.length : Int) then (if (x1.length : Int) < (x0.length : Int) then (M.ret (decide (t2.2 = 1), x0.set ((x1.length : Int).toNat) t2.1)) else M.none) else M.none)) else M.none) else M.none)) := by kernel_rfl
theorem quot_less.f_eq {a0 : List Int} {a1 : List Int} {a2 : Int} : quot_less.f a0 a1 a2 =
    (quot_less.l0 a0 a1 a2 0 0 a1 (a1.length : Int) 0) := by kernel_rfl
/-! ### mbits_Add32 -/
noncomputable def mbits_Add32.Γ : Ctx := ⟨tys, fun f => none, globs, eqs⟩
def mbits_Add32.A : Live := fun i => none
noncomputable def mbits_Add32.f (a0 : Int) (a1 : Int) (a2 : Int) : M (Int × Int) := evFn mbits_Add32.Γ mbits_Add32.A Tryd.f37 (.pair (.int .u32) (.pair (.int .u32) (.int .u32))) (.pair (.int .u32) (.int .u32)) (a0, a1, a2)
noncomputable def mbits_Add32.ent : FnE := .plain (.pair (.int .u32) (.pair (.int .u32) (.int .u32))) (.pair (.int .u32) (.int .u32)) true fun x => mbits_Add32.f x.1 x.2.1 x.2.2
theorem mbits_Add32.f_eq {a0 : Int} {a1 : Int} {a2 : Int} : mbits_Add32.f a0 a1 a2 =
    (M.ret (IntKind.u32.wrap (IntKind.u64.wrap ((IntKind.u64.wrap ((IntKind.u64.wrap (a0)) + (IntKind.u64.wrap (a1)))) + (IntKind.u64.wrap (a2)))), IntKind.u32.wrap ((IntKind.u64.wrap ((IntKind.u64.wrap ((IntKind.u64.wrap (a0)) + (IntKind.u64.wrap (a1)))) + (IntKind.u64.wrap (a2)))).fdiv (2 ^ 32)))) := by kernel_rfl
/-! ### quot_more -/
noncomputable def quot_more.Γ : Ctx := ⟨tys, fun f => bif Nat.beq f 37 then some mbits_Add32.ent else (none), globs, eqs⟩
def quot_more.l0.live : List (Nat × LK) := [(0, .own false (.int .u32)), (1, .val (.lst (.int .u32))), (4, .val (.int .u32)), (7, .val (.lst (.int .u32))), (8, .val (.int .i64)), (9, .val (.int .i64))]
def quot_more.A : Live := fun i => bif Nat.beq i 4 then some quot_more.l0.live else (none)
noncomputable def quot_more.f (a0 : List Int) (a1 : List Int) : M (Unit × List Int) := evFnRow quot_more.Γ quot_more.A Tryd.f92 (.int .u32) (.lst (.int .u32)) .nil a0 a1
noncomputable def quot_more.ent : FnE := .ioRow (.int .u32) (.lst (.int .u32)) .nil fun l x => quot_more.f l x
noncomputable def quot_more.l0.c : Code × Kont (Unit × List Int) := focus quot_more.Γ quot_more.A (bodyOf Tryd.f92) (finRow quot_more.Γ Tryd.f92.results.toList (.int .u32) .nil) [.r, .l, .r, .l]
noncomputable def quot_more.l0 (x0 : List Int) (x1 : List Int) (x4 : Int) (x7 : List Int) (x8 : Int) (x9 : Int) : M (Unit × List Int) := loopOf quot_more.Γ quot_more.A quot_more.l0.live quot_more.l0.c (x0, x1, x4, x7, x8, x9)
theorem quot_more.l0_eq {x0 : List Int} {x1 : List Int} {x4 : Int} {x7 : List Int} {x8 : Int} {x9 : Int} :
    roundOf quot_more.Γ quot_more.A quot_more.l0.live quot_more.l0.c (loopOf quot_more.Γ quot_more.A quot_more.l0.live quot_more.l0.c) (x0, x1, x4, x7, x8, x9) =
    (if x9 < x8 then (if 0 ≤ x9 then (if x9 < (x7.length : Int) then (if 0 ≤ x9 then (if x9 < (x0.length : Int) then (M.bind (mbits_Add32.f (x0.getD x9.toNat 0) (rdI x7 x9) x4) fun t1 => (if 0 ≤ x9 then (if x9 < (x0.length : Int) then (quot_more.l0 (x0.set x9.toNat t1.1) x1 t1.2 x7 x8 (IntKind.i64.wrap (x9 + 1))) else M.none) else M.none)) else M.none) else M.none) else M.none) else M.none) else (if 0 ≤ (x1.length : Int) then (if (x1.length : Int) < (x0.length : Int) then (if 0 ≤ (x1.length : Int) then (if (x1.length : Int) < (x0.length : Int) then (M.ret ((), x0.set ((x1.length : Int).toNat) (IntKind.u32.wrap ((x0.getD ((x1.length : Int).toNat) 0) + x4)))) else M.none) else M.none) else M.none) else M.none)) := by kernel_rfl
theorem quot_more.f_eq {a0 : List Int} {a1 : List Int} : quot_more.f a0 a1 =
    (quot_more.l0 a0 a1 0 a1 (a1.length : Int) 0) := by kernel_rfl
/-! ### quot_back -/
noncomputable def quot_back.Γ : Ctx := ⟨tys, fun f => none, globs, eqs⟩
def quot_back.l0.live : List (Nat × LK) := [(0, .val (.lst (.int .u32))), (1, .val (.int .i64)), (5, .own true (.int .u32)), (11, .val (.int .i64)), (12, .val (.int .i64))]
def quot_back.A : Live := fun i => bif Nat.beq i 6 then some quot_back.l0.live else (none)
noncomputable def quot_back.f (a0 : List Int) (a1 : Int) : M (List Int) := evFn quot_back.Γ quot_back.A Tryd.f93 (.pair (.lst (.int .u32)) (.int .i64)) (.lst (.int .u32)) (a0, a1)
noncomputable def quot_back.ent : FnE := .plain (.pair (.lst (.int .u32)) (.int .i64)) (.lst (.int .u32)) false fun x => quot_back.f x.1 x.2
noncomputable def quot_back.l0.c : Code × Kont (List Int) := focus quot_back.Γ quot_back.A (bodyOf Tryd.f93) (finQ quot_back.Γ Tryd.f93.results.toList (.lst (.int .u32))) [.r, .r, .l, .r, .l]
noncomputable def quot_back.l0 (x0 : List Int) (x1 : Int) (x5 : List Int) (x11 : Int) (x12 : Int) : M (List Int) := loopOf quot_back.Γ quot_back.A quot_back.l0.live quot_back.l0.c (x0, x1, x5, x11, x12)
theorem quot_back.l0_eq {x0 : List Int} {x1 : Int} {x5 : List Int} {x11 : Int} {x12 : Int} :
    roundOf quot_back.Γ quot_back.A quot_back.l0.live quot_back.l0.c (loopOf quot_back.Γ quot_back.A quot_back.l0.live quot_back.l0.c) (x0, x1, x5, x11, x12) =
    (if x12 < x11 then (if 0 ≤ x12 then (if x12 < (x0.length : Int) then (if 0 ≤ x1 then (if 0 ≤ x12 then (if x12 < (x5.length : Int) then (if (IntKind.i64.wrap (x12 + 1)) < (x0.length : Int) then (if 0 ≤ x12 then (if x12 < ((x5.set x12.toNat ((rdI x0 x12).fdiv (2 ^ (min x1.toNat 32)))).length : Int) then (if 0 ≤ (IntKind.i64.wrap (x12 + 1)) then (if (IntKind.i64.wrap (x12 + 1)) < (x0.length : Int) then (if 0 ≤ x1 then (if 0 ≤ x12 then (if x12 < ((x5.set x12.toNat ((rdI x0 x12).fdiv (2 ^ (min x1.toNat 32)))).length : Int) then (quot_back.l0 x0 x1 ((x5.set x12.toNat ((rdI x0 x12).fdiv (2 ^ (min x1.toNat 32)))).set x12.toNat (IntKind.u32.wrap ((BitVec.ofInt IntKind.u32.bits ((x5.set x12.toNat ((rdI x0 x12).fdiv (2 ^ (min x1.toNat 32)))).getD x12.toNat 0) ||| BitVec.ofInt IntKind.u32.bits (IntKind.u32.wrap ((IntKind.u64.wrap ((IntKind.u64.wrap (rdI x0 (IntKind.i64.wrap (x12 + 1)))) * 2 ^ 32)).fdiv (2 ^ (min x1.toNat 64))))).toNat))) x11 (IntKind.i64.wrap (x12 + 1))) else M.none) else M.none) else M.none) else M.none) else M.none) else M.none) else M.none) else (quot_back.l0 x0 x1 (x5.set x12.toNat ((rdI x0 x12).fdiv (2 ^ (min x1.toNat 32)))) x11 (IntKind.i64.wrap (x12 + 1)))) else M.none) else M.none) else M.none) else M.none) else M.none) else (M.ret x5)) := by kernel_rfl
theorem quot_back.f_eq {a0 : List Int} {a1 : Int} : quot_back.f a0 a1 =
    (if 0 ≤ (a0.length : Int) then (if (a0.length : Int) ≤ 1099511627776 then (quot_back.l0 a0 a1 (List.replicate (a0.length : Int).toNat (0 : Int)) (a0.length : Int) 0) else M.none) else M.none) := by kernel_rfl
/-! ### quot_long -/
noncomputable def quot_long.Γ : Ctx := ⟨tys, fun f => bif Nat.beq f 88 then some mbits_LeadingZeros32.ent else (bif Nat.beq f 89 then some quot_shifted.ent else (bif Nat.beq f 90 then some quot_guess.ent else (bif Nat.beq f 91 then some quot_less.ent else (bif Nat.beq f 92 then some quot_more.ent else (bif Nat.beq f 93 then some quot_back.ent else (none)))))), globs, eqs⟩
def quot_long.l0.live : List (Nat × LK) := [(6, .val (.int .i64)), (7, .own true (.int .u32)), (8, .val (.lst (.int .u32))), (9, .own true (.int .u32)), (10, .val (.int .i64))]
def quot_long.A : Live := fun i => bif Nat.beq i 10 then some quot_long.l0.live else (none)
noncomputable def quot_long.f (a0 : List Int) (a1 : List Int) : M ((List Int) × List Int) := evFn quot_long.Γ quot_long.A Tryd.f70 (.pair (.lst (.int .u32)) (.lst (.int .u32))) (.pair (.lst (.int .u32)) (.lst (.int .u32))) (a0, a1)
noncomputable def quot_long.ent : FnE := .plain (.pair (.lst (.int .u32)) (.lst (.int .u32))) (.pair (.lst (.int .u32)) (.lst (.int .u32))) true fun x => quot_long.f x.1 x.2
noncomputable def quot_long.l0.c : Code × Kont ((List Int) × List Int) := focus quot_long.Γ quot_long.A (bodyOf Tryd.f70) (finQ quot_long.Γ Tryd.f70.results.toList (.pair (.lst (.int .u32)) (.lst (.int .u32)))) [.r, .r, .r, .r, .l, .r, .l]
noncomputable def quot_long.l0 (x6 : Int) (x7 : List Int) (x8 : List Int) (x9 : List Int) (x10 : Int) : M ((List Int) × List Int) := loopOf quot_long.Γ quot_long.A quot_long.l0.live quot_long.l0.c (x6, x7, x8, x9, x10)
theorem quot_long.l0_eq {x6 : Int} {x7 : List Int} {x8 : List Int} {x9 : List Int} {x10 : Int} :
    roundOf quot_long.Γ quot_long.A quot_long.l0.live quot_long.l0.c (loopOf quot_long.Γ quot_long.A quot_long.l0.live quot_long.l0.c) (x6, x7, x8, x9, x10) =
    (if x10 ≥ 0 then (if 0 ≤ (IntKind.i64.wrap ((IntKind.i64.wrap (x10 + (x8.length : Int))) + 1)) then (if (IntKind.i64.wrap ((IntKind.i64.wrap (x10 + (x8.length : Int))) + 1)) ≤ (x7.length : Int) then (if 0 ≤ x10 then (if x10 ≤ (IntKind.i64.wrap ((IntKind.i64.wrap (x10 + (x8.length : Int))) + 1)) then (if x10 < (IntKind.i64.wrap ((IntKind.i64.wrap (x10 + (x8.length : Int))) + 1)) then (M.bind (quot_guess.f ((x7.drop x10.toNat).take ((IntKind.i64.wrap ((IntKind.i64.wrap (x10 + (x8.length : Int))) + 1)).toNat - x10.toNat)) x8) fun t1 => (if 0 < ((IntKind.i64.wrap ((IntKind.i64.wrap (x10 + (x8.length : Int))) + 1)).toNat - x10.toNat) then (M.bind (quot_less.f ((x7.drop x10.toNat).take ((IntKind.i64.wrap ((IntKind.i64.wrap (x10 + (x8.length : Int))) + 1)).toNat - x10.toNat)) x8 t1) fun t2 => (if t2.1 = true then (if 0 < ((IntKind.i64.wrap ((IntKind.i64.wrap (x10 + (x8.length : Int))) + 1)).toNat - x10.toNat) then (M.bind (quot_more.f (((x7.take x10.toNat ++ t2.2 ++ x7.drop (x10.toNat + ((IntKind.i64.wrap ((IntKind.i64.wrap (x10 + (x8.length : Int))) + 1)).toNat - x10.toNat))).drop x10.toNat).take ((IntKind.i64.wrap ((IntKind.i64.wrap (x10 + (x8.length : Int))) + 1)).toNat - x10.toNat)) x8) fun t3 => (if 0 ≤ x10 then (if x10 < (x9.length : Int) then (quot_long.l0 x6 ((x7.take x10.toNat ++ t2.2 ++ x7.drop (x10.toNat + ((IntKind.i64.wrap ((IntKind.i64.wrap (x10 + (x8.length : Int))) + 1)).toNat - x10.toNat))).take x10.toNat ++ t3.2 ++ (x7.take x10.toNat ++ t2.2 ++ x7.drop (x10.toNat + ((IntKind.i64.wrap ((IntKind.i64.wrap (x10 + (x8.length : Int))) + 1)).toNat - x10.toNat))).drop (x10.toNat + ((IntKind.i64.wrap ((IntKind.i64.wrap (x10 + (x8.length : Int))) + 1)).toNat - x10.toNat))) x8 (x9.set x10.toNat (IntKind.u32.wrap (IntKind.u64.wrap (t1 - 1)))) (IntKind.i64.wrap (x10 - 1))) else M.none) else M.none)) else M.none) else (if 0 ≤ x10 then (if x10 < (x9.length : Int) then (quot_long.l0 x6 (x7.take x10.toNat ++ t2.2 ++ x7.drop (x10.toNat + ((IntKind.i64.wrap ((IntKind.i64.wrap (x10 + (x8.length : Int))) + 1)).toNat - x10.toNat))) x8 (x9.set x10.toNat (IntKind.u32.wrap (t1))) (IntKind.i64.wrap (x10 - 1))) else M.none) else M.none))) else M.none)) else M.none) else M.none) else M.none) else M.none) else M.none) else (if 0 ≤ (x8.length : Int) then (if (x8.length : Int) ≤ (x7.length : Int) then (M.bind (quot_back.f ((x7.drop 0).take ((x8.length : Int).toNat)) x6) fun t4 => (M.ret (x9, t4))) else M.none) else M.none)) := by kernel_rfl
theorem quot_long.f_eq {a0 : List Int} {a1 : List Int} : quot_long.f a0 a1 =
    (if 0 ≤ (IntKind.i64.wrap ((a1.length : Int) - 1)) then (if (IntKind.i64.wrap ((a1.length : Int) - 1)) < (a1.length : Int) then (M.bind (mbits_LeadingZeros32.f (rdI a1 (IntKind.i64.wrap ((a1.length : Int) - 1)))) fun t1 => (M.bind (quot_shifted.f a0 t1) fun t2 => (M.bind (quot_shifted.f a1 t1) fun t3 => (if 0 ≤ (a1.length : Int) then (if (a1.length : Int) ≤ (t3.length : Int) then (if 0 ≤ (IntKind.i64.wrap ((IntKind.i64.wrap ((a0.length : Int) - (a1.length : Int))) + 1)) then (if (IntKind.i64.wrap ((IntKind.i64.wrap ((a0.length : Int) - (a1.length : Int))) + 1)) ≤ 1099511627776 then (quot_long.l0 t1 t2 ((t3.drop 0).take ((a1.length : Int).toNat)) (List.replicate (IntKind.i64.wrap ((IntKind.i64.wrap ((a0.length : Int) - (a1.length : Int))) + 1)).toNat (0 : Int)) (IntKind.i64.wrap (((List.replicate (IntKind.i64.wrap ((IntKind.i64.wrap ((a0.length : Int) - (a1.length : Int))) + 1)).toNat (0 : Int)).length : Int) - 1))) else M.none) else M.none) else M.none) else M.none)))) else M.none) else M.none) := by kernel_rfl
/-! ### quot_Div -/
noncomputable def quot_Div.Γ : Ctx := ⟨tys, fun f => bif Nat.beq f 8 then some nat_Made.ent else (bif Nat.beq f 13 then some nat_Of.ent else (bif Nat.beq f 39 then some nat_Nat_Limbs.ent else (bif Nat.beq f 69 then some quot_small.ent else (bif Nat.beq f 70 then some quot_long.ent else (none))))), globs, eqs⟩
def quot_Div.A : Live := fun i => none
noncomputable def quot_Div.f (a0 : List Int) (a1 : List Int) : M ((List Int) × (List Int) × Bool) := evFn quot_Div.Γ quot_Div.A Tryd.f46 (.pair (.agg (.lst (.int .u32))) (.agg (.lst (.int .u32)))) (.pair (.agg (.lst (.int .u32))) (.pair (.agg (.lst (.int .u32))) .bool)) (a0, a1)
noncomputable def quot_Div.ent : FnE := .plain (.pair (.agg (.lst (.int .u32))) (.agg (.lst (.int .u32)))) (.pair (.agg (.lst (.int .u32))) (.pair (.agg (.lst (.int .u32))) .bool)) true fun x => quot_Div.f x.1 x.2
theorem quot_Div.f_eq {a0 : List Int} {a1 : List Int} : quot_Div.f a0 a1 =
    (M.bind (nat_Nat_Limbs.f a0) fun t1 => (M.bind (nat_Nat_Limbs.f a1) fun t2 => (if (t2.length : Int) = 0 then (M.ret (([] : List Int), ([] : List Int), false)) else (if (t1.length : Int) < (t2.length : Int) then (M.ret (([] : List Int), a0, true)) else (if (t2.length : Int) = 1 then (if 0 ≤ 0 then (if 0 < (t2.length : Int) then (M.bind (quot_small.f t1 (rdI t2 0)) fun t3 => (M.bind (nat_Made.f t3.1) fun t4 => (M.bind (nat_Of.f (IntKind.u64.wrap (t3.2))) fun t5 => (M.ret (t4, t5, true))))) else M.none) else M.none) else (M.bind (quot_long.f t1 t2) fun t6 => (M.bind (nat_Made.f t6.1) fun t7 => (M.bind (nat_Made.f t6.2) fun t8 => (M.ret (t7, t8, true)))))))))) := by kernel_rfl
/-! ### quot_Gcd -/
noncomputable def quot_Gcd.Γ : Ctx := ⟨tys, fun f => bif Nat.beq f 21 then some nat_Nat_Bits.ent else (bif Nat.beq f 46 then some quot_Div.ent else (none)), globs, eqs⟩
def quot_Gcd.l0.live : List (Nat × LK) := [(2, .box [(.lst (.int .u32))]), (3, .box [(.lst (.int .u32))]), (4, .box [(.lst (.int .u32))])]
def quot_Gcd.A : Live := fun i => bif Nat.beq i 2 then some quot_Gcd.l0.live else (none)
noncomputable def quot_Gcd.f (a0 : List Int) (a1 : List Int) : M (List Int) := evFn quot_Gcd.Γ quot_Gcd.A Tryd.f59 (.pair (.agg (.lst (.int .u32))) (.agg (.lst (.int .u32)))) (.agg (.lst (.int .u32))) (a0, a1)
noncomputable def quot_Gcd.ent : FnE := .plain (.pair (.agg (.lst (.int .u32))) (.agg (.lst (.int .u32)))) (.agg (.lst (.int .u32))) false fun x => quot_Gcd.f x.1 x.2
noncomputable def quot_Gcd.l0.c : Code × Kont (List Int) := focus quot_Gcd.Γ quot_Gcd.A (bodyOf Tryd.f59) (finQ quot_Gcd.Γ Tryd.f59.results.toList (.agg (.lst (.int .u32)))) [.r, .l, .l]
noncomputable def quot_Gcd.l0 (x2 : List Int) (x3 : List Int) (x4 : List Int) : M (List Int) := loopOf quot_Gcd.Γ quot_Gcd.A quot_Gcd.l0.live quot_Gcd.l0.c (x2, x3, x4)
theorem quot_Gcd.l0_eq {x2 : List Int} {x3 : List Int} {x4 : List Int} :
    roundOf quot_Gcd.Γ quot_Gcd.A quot_Gcd.l0.live quot_Gcd.l0.c (loopOf quot_Gcd.Γ quot_Gcd.A quot_Gcd.l0.live quot_Gcd.l0.c) (x2, x3, x4) =
    (M.bind (nat_Nat_Bits.f x3) fun t1 => (if t1 > 0 then (M.bind (quot_Div.f x2 x3) fun t2 => (quot_Gcd.l0 x3 t2.2.1 x4)) else (M.ret x2))) := by kernel_rfl
theorem quot_Gcd.f_eq {a0 : List Int} {a1 : List Int} : quot_Gcd.f a0 a1 =
    (quot_Gcd.l0 a0 a1 ([] : List Int)) := by kernel_rfl
/-! ### ratio_lowest -/
noncomputable def ratio_lowest.Γ : Ctx := ⟨tys, fun f => bif Nat.beq f 46 then some quot_Div.ent else (bif Nat.beq f 59 then some quot_Gcd.ent else (none)), globs, eqs⟩
def ratio_lowest.A : Live := fun i => none
noncomputable def ratio_lowest.f (a0 : List Int) (a1 : List Int) : M ((List Int) × List Int) := evFn ratio_lowest.Γ ratio_lowest.A Tryd.f30 (.pair (.agg (.lst (.int .u32))) (.agg (.lst (.int .u32)))) (.agg (.pair (.lst (.int .u32)) (.lst (.int .u32)))) (a0, a1)
noncomputable def ratio_lowest.ent : FnE := .plain (.pair (.agg (.lst (.int .u32))) (.agg (.lst (.int .u32)))) (.agg (.pair (.lst (.int .u32)) (.lst (.int .u32)))) false fun x => ratio_lowest.f x.1 x.2
theorem ratio_lowest.f_eq {a0 : List Int} {a1 : List Int} : ratio_lowest.f a0 a1 =
    (M.bind (quot_Gcd.f a0 a1) fun t1 => (M.bind (quot_Div.f a0 t1) fun t2 => (M.bind (quot_Div.f a1 t1) fun t3 => (M.ret (t2.1, t3.1))))) := by kernel_rfl
/-! ### ratio_Of -/
noncomputable def ratio_Of.Γ : Ctx := ⟨tys, fun f => bif Nat.beq f 21 then some nat_Nat_Bits.ent else (bif Nat.beq f 30 then some ratio_lowest.ent else (none)), globs, eqs⟩
def ratio_Of.A : Live := fun i => none
noncomputable def ratio_Of.f (a0 : List Int) (a1 : List Int) : M (((List Int) × List Int) × Bool) := evFn ratio_Of.Γ ratio_Of.A Tryd.f7 (.pair (.agg (.lst (.int .u32))) (.agg (.lst (.int .u32)))) (.pair (.agg (.pair (.lst (.int .u32)) (.lst (.int .u32)))) .bool) (a0, a1)
noncomputable def ratio_Of.ent : FnE := .plain (.pair (.agg (.lst (.int .u32))) (.agg (.lst (.int .u32)))) (.pair (.agg (.pair (.lst (.int .u32)) (.lst (.int .u32)))) .bool) true fun x => ratio_Of.f x.1 x.2
theorem ratio_Of.f_eq {a0 : List Int} {a1 : List Int} : ratio_Of.f a0 a1 =
    (M.bind (nat_Nat_Bits.f a1) fun t1 => (if t1 = 0 then (M.ret ((([] : List Int), ([] : List Int)), false)) else (M.bind (ratio_lowest.f a0 a1) fun t2 => (M.ret (t2, true))))) := by kernel_rfl
/-! ### digits_Pad -/
noncomputable def digits_Pad.Γ : Ctx := ⟨tys, fun f => bif Nat.beq f 22 then some strings_Repeat.ent else (none), globs, eqs⟩
def digits_Pad.A : Live := fun i => none
noncomputable def digits_Pad.f (a0 : ByteArray) (a1 : Int) : M ByteArray := evFn digits_Pad.Γ digits_Pad.A Tryd.f25 (.pair .str (.int .i64)) .str (a0, a1)
noncomputable def digits_Pad.ent : FnE := .plain (.pair .str (.int .i64)) .str false fun x => digits_Pad.f x.1 x.2
theorem digits_Pad.f_eq {a0 : ByteArray} {a1 : Int} : digits_Pad.f a0 a1 =
    (if a1 > 65536 then (M.ret a0) else (if a1 ≤ (a0.size : Int) then (M.ret a0) else (M.bind (strings_Repeat.f (⟨#[48]⟩ : ByteArray) (IntKind.i64.wrap (a1 - (a0.size : Int)))) fun t1 => (if t1.size + a0.size ≤ 9223372036854775807 then (M.ret (t1 ++ a0)) else M.none)))) := by kernel_rfl
/-! ### times_Mul -/
noncomputable def times_Mul.Γ : Ctx := ⟨tys, fun f => bif Nat.beq f 8 then some nat_Made.ent else (bif Nat.beq f 39 then some nat_Nat_Limbs.ent else (none)), globs, eqs⟩
def times_Mul.l0.live : List (Nat × LK) := [(4, .box [(.lst (.int .u32))]), (6, .val (.lst (.int .u32))), (7, .own true (.int .u32)), (23, .val (.lst (.int .u32))), (24, .val (.int .i64)), (25, .val (.int .i64))]
def times_Mul.l1.live : List (Nat × LK) := [(4, .box [(.lst (.int .u32))]), (6, .val (.lst (.int .u32))), (7, .own true (.int .u32)), (8, .val (.int .i64)), (9, .val (.int .u32)), (10, .val (.int .u64)), (23, .val (.lst (.int .u32))), (24, .val (.int .i64)), (25, .val (.int .i64)), (30, .val (.lst (.int .u32))), (31, .val (.int .i64)), (32, .val (.int .i64))]
def times_Mul.A : Live := fun i => bif Nat.beq i 8 then some times_Mul.l0.live else (bif Nat.beq i 16 then some times_Mul.l1.live else (none))
noncomputable def times_Mul.f (a0 : List Int) (a1 : List Int) : M (List Int) := evFn times_Mul.Γ times_Mul.A Tryd.f45 (.pair (.agg (.lst (.int .u32))) (.agg (.lst (.int .u32)))) (.agg (.lst (.int .u32))) (a0, a1)
noncomputable def times_Mul.ent : FnE := .plain (.pair (.agg (.lst (.int .u32))) (.agg (.lst (.int .u32)))) (.agg (.lst (.int .u32))) false fun x => times_Mul.f x.1 x.2
noncomputable def times_Mul.l0.c : Code × Kont (List Int) := focus times_Mul.Γ times_Mul.A (bodyOf Tryd.f45) (finQ times_Mul.Γ Tryd.f45.results.toList (.agg (.lst (.int .u32)))) [.r, .r, .r, .l, .r, .l]
noncomputable def times_Mul.l0 (x4 : List Int) (x6 : List Int) (x7 : List Int) (x23 : List Int) (x24 : Int) (x25 : Int) : M (List Int) := loopOf times_Mul.Γ times_Mul.A times_Mul.l0.live times_Mul.l0.c (x4, x6, x7, x23, x24, x25)
noncomputable def times_Mul.l1.c : Code × Kont (List Int) := focus times_Mul.Γ times_Mul.A (bodyOf Tryd.f45) (finQ times_Mul.Γ Tryd.f45.results.toList (.agg (.lst (.int .u32)))) [.r, .r, .r, .l, .r, .l, .l, .r, .r, .l, .l, .r, .r, .l, .r, .l]
noncomputable def times_Mul.l1 (x4 : List Int) (x6 : List Int) (x7 : List Int) (x8 : Int) (x9 : Int) (x10 : Int) (x23 : List Int) (x24 : Int) (x25 : Int) (x30 : List Int) (x31 : Int) (x32 : Int) : M (List Int) := loopOf times_Mul.Γ times_Mul.A times_Mul.l1.live times_Mul.l1.c (x4, x6, x7, x8, x9, x10, x23, x24, x25, x30, x31, x32)
theorem times_Mul.l0_eq {x4 : List Int} {x6 : List Int} {x7 : List Int} {x23 : List Int} {x24 : Int} {x25 : Int} :
    roundOf times_Mul.Γ times_Mul.A times_Mul.l0.live times_Mul.l0.c (loopOf times_Mul.Γ times_Mul.A times_Mul.l0.live times_Mul.l0.c) (x4, x6, x7, x23, x24, x25) =
    (if x25 < x24 then (if 0 ≤ x25 then (if x25 < (x23.length : Int) then (times_Mul.l1 x4 x6 x7 x25 (rdI x23 x25) 0 x23 x24 x25 x6 (x6.length : Int) 0) else M.none) else M.none) else (M.bind (nat_Made.f x7) fun t1 => (M.ret t1))) := by kernel_rfl
theorem times_Mul.l1_eq {x4 : List Int} {x6 : List Int} {x7 : List Int} {x8 : Int} {x9 : Int} {x10 : Int} {x23 : List Int} {x24 : Int} {x25 : Int} {x30 : List Int} {x31 : Int} {x32 : Int} :
    roundOf times_Mul.Γ times_Mul.A times_Mul.l1.live times_Mul.l1.c (loopOf times_Mul.Γ times_Mul.A times_Mul.l1.live times_Mul.l1.c) (x4, x6, x7, x8, x9, x10, x23, x24, x25, x30, x31, x32) =
    (if x32 < x31 then (if 0 ≤ x32 then (if x32 < (x30.length : Int) then (if 0 ≤ (IntKind.i64.wrap (x8 + x32)) then (if (IntKind.i64.wrap (x8 + x32)) < (x7.length : Int) then (if 0 ≤ (IntKind.i64.wrap (x8 + x32)) then (if (IntKind.i64.wrap (x8 + x32)) < (x7.length : Int) then (times_Mul.l1 x4 x6 (x7.set ((IntKind.i64.wrap (x8 + x32)).toNat) (IntKind.u32.wrap (IntKind.u64.wrap (x10 + (IntKind.u64.wrap ((IntKind.u64.wrap ((IntKind.u64.wrap (x9)) * (IntKind.u64.wrap (rdI x30 x32)))) + (IntKind.u64.wrap (x7.getD ((IntKind.i64.wrap (x8 + x32)).toNat) 0)))))))) x8 x9 ((IntKind.u64.wrap (x10 + (IntKind.u64.wrap ((IntKind.u64.wrap ((IntKind.u64.wrap (x9)) * (IntKind.u64.wrap (rdI x30 x32)))) + (IntKind.u64.wrap (x7.getD ((IntKind.i64.wrap (x8 + x32)).toNat) 0)))))).fdiv (2 ^ 32)) x23 x24 x25 x30 x31 (IntKind.i64.wrap (x32 + 1))) else M.none) else M.none) else M.none) else M.none) else M.none) else M.none) else (if 0 ≤ (IntKind.i64.wrap (x8 + (x6.length : Int))) then (if (IntKind.i64.wrap (x8 + (x6.length : Int))) < (x7.length : Int) then (times_Mul.l0 x4 x6 (x7.set ((IntKind.i64.wrap (x8 + (x6.length : Int))).toNat) (IntKind.u32.wrap (x10))) x23 x24 (IntKind.i64.wrap (x25 + 1))) else M.none) else M.none)) := by kernel_rfl
theorem times_Mul.f_eq {a0 : List Int} {a1 : List Int} : times_Mul.f a0 a1 =
    (M.bind (nat_Nat_Limbs.f a0) fun t1 => (M.bind (nat_Nat_Limbs.f a1) fun t2 => (if 0 ≤ (IntKind.i64.wrap ((t1.length : Int) + (t2.length : Int))) then (if (IntKind.i64.wrap ((t1.length : Int) + (t2.length : Int))) ≤ 1099511627776 then (times_Mul.l0 ([] : List Int) t2 (List.replicate (IntKind.i64.wrap ((t1.length : Int) + (t2.length : Int))).toNat (0 : Int)) t1 (t1.length : Int) 0) else M.none) else M.none))) := by kernel_rfl
/-! ### times_Pow -/
noncomputable def times_Pow.Γ : Ctx := ⟨tys, fun f => bif Nat.beq f 13 then some nat_Of.ent else (bif Nat.beq f 45 then some times_Mul.ent else (none)), globs, eqs⟩
def times_Pow.l0.live : List (Nat × LK) := [(1, .val (.int .i64)), (2, .box [(.lst (.int .u32))]), (4, .box [(.lst (.int .u32))]), (5, .box [(.lst (.int .u32))])]
def times_Pow.A : Live := fun i => bif Nat.beq i 4 then some times_Pow.l0.live else (none)
noncomputable def times_Pow.f (a0 : List Int) (a1 : Int) : M (List Int) := evFn times_Pow.Γ times_Pow.A Tryd.f40 (.pair (.agg (.lst (.int .u32))) (.int .i64)) (.agg (.lst (.int .u32))) (a0, a1)
noncomputable def times_Pow.ent : FnE := .plain (.pair (.agg (.lst (.int .u32))) (.int .i64)) (.agg (.lst (.int .u32))) false fun x => times_Pow.f x.1 x.2
noncomputable def times_Pow.l0.c : Code × Kont (List Int) := focus times_Pow.Γ times_Pow.A (bodyOf Tryd.f40) (finQ times_Pow.Γ Tryd.f40.results.toList (.agg (.lst (.int .u32)))) [.r, .r, .l, .l]
noncomputable def times_Pow.l0 (x1 : Int) (x2 : List Int) (x4 : List Int) (x5 : List Int) : M (List Int) := loopOf times_Pow.Γ times_Pow.A times_Pow.l0.live times_Pow.l0.c (x1, x2, x4, x5)
theorem times_Pow.l0_eq {x1 : Int} {x2 : List Int} {x4 : List Int} {x5 : List Int} :
    roundOf times_Pow.Γ times_Pow.A times_Pow.l0.live times_Pow.l0.c (loopOf times_Pow.Γ times_Pow.A times_Pow.l0.live times_Pow.l0.c) (x1, x2, x4, x5) =
    (if x1 > 0 then (if (IntKind.i64.wrap ((BitVec.ofInt IntKind.i64.bits x1 &&& BitVec.ofInt IntKind.i64.bits 1).toNat)) = 1 then (M.bind (times_Mul.f x5 x2) fun t1 => (if x1 > 1 then (M.bind (times_Mul.f x2 x2) fun t2 => (times_Pow.l0 (x1.fdiv (2 ^ 1)) t2 x4 t1)) else (times_Pow.l0 (x1.fdiv (2 ^ 1)) x2 x4 t1))) else (if x1 > 1 then (M.bind (times_Mul.f x2 x2) fun t3 => (times_Pow.l0 (x1.fdiv (2 ^ 1)) t3 x4 x5)) else (times_Pow.l0 (x1.fdiv (2 ^ 1)) x2 x4 x5))) else (M.ret x5)) := by kernel_rfl
theorem times_Pow.f_eq {a0 : List Int} {a1 : Int} : times_Pow.f a0 a1 =
    (M.bind (nat_Of.f 1) fun t1 => (times_Pow.l0 a1 a0 ([] : List Int) t1)) := by kernel_rfl
/-! ### tens_Ten -/
noncomputable def tens_Ten.Γ : Ctx := ⟨tys, fun f => bif Nat.beq f 13 then some nat_Of.ent else (bif Nat.beq f 40 then some times_Pow.ent else (none)), globs, eqs⟩
def tens_Ten.A : Live := fun i => none
noncomputable def tens_Ten.f (a0 : Int) : M (List Int) := evFn tens_Ten.Γ tens_Ten.A Tryd.f14 (.int .i64) (.agg (.lst (.int .u32))) a0
noncomputable def tens_Ten.ent : FnE := .plain (.int .i64) (.agg (.lst (.int .u32))) false fun x => tens_Ten.f x
theorem tens_Ten.f_eq {a0 : Int} : tens_Ten.f a0 =
    (M.bind (nat_Of.f 10) fun t1 => (M.bind (times_Pow.f t1 a0) fun t2 => (M.ret t2))) := by kernel_rfl
/-! ### nat_Nat_Small -/
noncomputable def nat_Nat_Small.Γ : Ctx := ⟨tys, fun f => none, globs, eqs⟩
def nat_Nat_Small.l0.live : List (Nat × LK) := [(4, .val (.int .u64)), (12, .val (.lst (.int .u32))), (13, .val (.int .i64)), (14, .val (.int .i64))]
def nat_Nat_Small.A : Live := fun i => bif Nat.beq i 10 then some nat_Nat_Small.l0.live else (none)
noncomputable def nat_Nat_Small.f (a0 : List Int) : M (Int × Bool) := evFn nat_Nat_Small.Γ nat_Nat_Small.A Tryd.f55 (.agg (.lst (.int .u32))) (.pair (.int .u64) .bool) a0
noncomputable def nat_Nat_Small.ent : FnE := .plain (.agg (.lst (.int .u32))) (.pair (.int .u64) .bool) true fun x => nat_Nat_Small.f x
noncomputable def nat_Nat_Small.l0.c : Code × Kont (Int × Bool) := focus nat_Nat_Small.Γ nat_Nat_Small.A (bodyOf Tryd.f55) (finQ nat_Nat_Small.Γ Tryd.f55.results.toList (.pair (.int .u64) .bool)) [.r, .r, .r, .l, .r, .l]
noncomputable def nat_Nat_Small.l0 (x4 : Int) (x12 : List Int) (x13 : Int) (x14 : Int) : M (Int × Bool) := loopOf nat_Nat_Small.Γ nat_Nat_Small.A nat_Nat_Small.l0.live nat_Nat_Small.l0.c (x4, x12, x13, x14)
theorem nat_Nat_Small.l0_eq {x4 : Int} {x12 : List Int} {x13 : Int} {x14 : Int} :
    roundOf nat_Nat_Small.Γ nat_Nat_Small.A nat_Nat_Small.l0.live nat_Nat_Small.l0.c (loopOf nat_Nat_Small.Γ nat_Nat_Small.A nat_Nat_Small.l0.live nat_Nat_Small.l0.c) (x4, x12, x13, x14) =
    (if x14 < x13 then (if 0 ≤ x14 then (if x14 < (x12.length : Int) then (if 0 ≤ IntKind.i64.wrap (32 * x14) then (nat_Nat_Small.l0 (IntKind.u64.wrap ((BitVec.ofInt IntKind.u64.bits x4 ||| BitVec.ofInt IntKind.u64.bits (IntKind.u64.wrap ((IntKind.u64.wrap (rdI x12 x14)) * 2 ^ (min (IntKind.i64.wrap (32 * x14)).toNat 64)))).toNat)) x12 x13 (IntKind.i64.wrap (x14 + 1))) else M.none) else M.none) else M.none) else (M.ret (x4, true))) := by kernel_rfl
theorem nat_Nat_Small.f_eq {a0 : List Int} : nat_Nat_Small.f a0 =
    (if (a0.length : Int) > 2 then (M.ret (0, false)) else (nat_Nat_Small.l0 0 a0 (a0.length : Int) 0)) := by kernel_rfl
/-! ### digits_plain -/
noncomputable def digits_plain.Γ : Ctx := ⟨tys, fun f => bif Nat.beq f 14 then some tens_Ten.ent else (bif Nat.beq f 21 then some nat_Nat_Bits.ent else (bif Nat.beq f 25 then some digits_Pad.ent else (bif Nat.beq f 46 then some quot_Div.ent else (bif Nat.beq f 55 then some nat_Nat_Small.ent else (bif Nat.beq f 103 then some strconv_FormatUint.ent else (none)))))), globs, eqs⟩
def digits_plain.l0.live : List (Nat × LK) := [(1, .box [(.lst (.int .u32))]), (3, .own true .str)]
def digits_plain.A : Live := fun i => bif Nat.beq i 4 then some digits_plain.l0.live else (none)
noncomputable def digits_plain.parts (a0 : List Int) : M (List ByteArray) := evCode digits_plain.Γ digits_plain.A (cutAt 0 (bodyOf Tryd.f81)) (argsSt 0 (.agg (.lst (.int .u32))) a0 st0) (onlyN fun st => evCode digits_plain.Γ digits_plain.A (cutAt 1 (bodyOf Tryd.f81)) st (onlyN fun st => evCode digits_plain.Γ digits_plain.A (cutAt 2 (bodyOf Tryd.f81)) st (cutQ 3 .str)))
noncomputable def digits_plain.f (a0 : List Int) : M ByteArray := M.bind (digits_plain.parts a0) fun l => joined l
noncomputable def digits_plain.ent : FnE := .plain (.agg (.lst (.int .u32))) .str false fun x => digits_plain.f x
noncomputable def digits_plain.l0.c : Code × Kont (List ByteArray) := focus digits_plain.Γ digits_plain.A (cutAt 2 (bodyOf Tryd.f81)) (cutQ 3 .str) [.l]
noncomputable def digits_plain.l0 (x1 : List Int) (x3 : List ByteArray) : M (List ByteArray) := loopOf digits_plain.Γ digits_plain.A digits_plain.l0.live digits_plain.l0.c (x1, x3)
theorem digits_plain.l0_eq {x1 : List Int} {x3 : List ByteArray} :
    roundOf digits_plain.Γ digits_plain.A digits_plain.l0.live digits_plain.l0.c (loopOf digits_plain.Γ digits_plain.A digits_plain.l0.live digits_plain.l0.c) (x1, x3) =
    (M.bind (nat_Nat_Bits.f x1) fun t1 => (if t1 > 0 then (M.bind (tens_Ten.f 9) fun t2 => (M.bind (quot_Div.f x1 t2) fun t3 => (M.bind (nat_Nat_Small.f t3.2.1) fun t4 => (M.bind (strconv_FormatUint.f t4.1 10) fun t5 => (M.bind (nat_Nat_Bits.f t3.1) fun t6 => (if t6 > 0 then (M.bind (digits_Pad.f t5 9) fun t7 => (if x3.length + ([t7] : List ByteArray).length ≤ 1099511627776 then (digits_plain.l0 t3.1 (x3 ++ ([t7] : List ByteArray))) else M.none)) else (if x3.length + ([t5] : List ByteArray).length ≤ 1099511627776 then (digits_plain.l0 t3.1 (x3 ++ ([t5] : List ByteArray))) else M.none))))))) else (M.ret x3))) := by kernel_rfl
theorem digits_plain.parts_eq {a0 : List Int} : digits_plain.parts a0 =
    (digits_plain.l0 a0 ([] : List ByteArray)) := by kernel_rfl
/-! ### digits_halves -/
noncomputable def digits_halves.Γ (F : (List Int) → M ByteArray) : Ctx := ⟨tys, fun f => bif Nat.beq f 14 then some tens_Ten.ent else (bif Nat.beq f 21 then some nat_Nat_Bits.ent else (bif Nat.beq f 22 then some strings_Repeat.ent else (bif Nat.beq f 39 then some nat_Nat_Limbs.ent else (bif Nat.beq f 46 then some quot_Div.ent else (bif Nat.beq f 58 then some (.plain (.agg (.lst (.int .u32))) .str false F) else (bif Nat.beq f 81 then some digits_plain.ent else (none))))))), globs, eqs⟩
def digits_halves.A : Live := fun i => none
noncomputable def digits_halves.step (F : (List Int) → M ByteArray) (a0 : List Int) : M ByteArray := evFn (digits_halves.Γ F) digits_halves.A Tryd.f58 (.agg (.lst (.int .u32))) .str a0
noncomputable def digits_halves.fuel : Nat → (List Int) → M ByteArray
  | 0 => fun _ => M.none
  | n + 1 => fun x => digits_halves.step (digits_halves.fuel n) x
noncomputable def digits_halves.f (a0 : List Int) : M ByteArray := fun r => ∃ n, digits_halves.fuel n a0 r
noncomputable def digits_halves.ent : FnE := .plain (.agg (.lst (.int .u32))) .str false fun x => digits_halves.f x
theorem digits_halves.step_eq {F : (List Int) → M ByteArray} {a0 : List Int} : digits_halves.step F a0 =
    (M.bind (nat_Nat_Limbs.f a0) fun t1 => (if (t1.length : Int) ≤ 40 then (M.bind (digits_plain.f a0) fun t2 => (M.ret t2)) else (M.bind (tens_Ten.f (IntKind.i64.wrap ((IntKind.i64.wrap ((t1.length : Int) * 9)).tdiv 2))) fun t3 => (M.bind (quot_Div.f a0 t3) fun t4 => (M.bind (nat_Nat_Bits.f t4.1) fun t5 => (if t5 = 0 then (M.bind (digits_plain.f a0) fun t6 => (M.ret t6)) else (M.bind (F t4.2.1) fun t7 => (M.bind (F t4.1) fun t8 => (M.bind (strings_Repeat.f (⟨#[48]⟩ : ByteArray) (IntKind.i64.wrap ((IntKind.i64.wrap ((IntKind.i64.wrap ((t1.length : Int) * 9)).tdiv 2)) - (t7.size : Int)))) fun t9 => (if t8.size + t9.size ≤ 9223372036854775807 then (if (t8 ++ t9).size + t7.size ≤ 9223372036854775807 then (M.ret ((t8 ++ t9) ++ t7)) else M.none) else M.none)))))))))) := by kernel_rfl
/-! ### digits_Text -/
noncomputable def digits_Text.Γ : Ctx := ⟨tys, fun f => bif Nat.beq f 21 then some nat_Nat_Bits.ent else (bif Nat.beq f 58 then some digits_halves.ent else (none)), globs, eqs⟩
def digits_Text.A : Live := fun i => none
noncomputable def digits_Text.f (a0 : List Int) : M ByteArray := evFn digits_Text.Γ digits_Text.A Tryd.f28 (.agg (.lst (.int .u32))) .str a0
noncomputable def digits_Text.ent : FnE := .plain (.agg (.lst (.int .u32))) .str false fun x => digits_Text.f x
theorem digits_Text.f_eq {a0 : List Int} : digits_Text.f a0 =
    (M.bind (nat_Nat_Bits.f a0) fun t1 => (if t1 = 0 then (M.ret (⟨#[48]⟩ : ByteArray)) else (M.bind (digits_halves.f a0) fun t2 => (M.ret t2)))) := by kernel_rfl
/-! ### ratio_Ratio_under -/
noncomputable def ratio_Ratio_under.Γ : Ctx := ⟨tys, fun f => bif Nat.beq f 13 then some nat_Of.ent else (bif Nat.beq f 21 then some nat_Nat_Bits.ent else (none)), globs, eqs⟩
def ratio_Ratio_under.A : Live := fun i => none
noncomputable def ratio_Ratio_under.f (a0 : (List Int) × List Int) : M (List Int) := evFn ratio_Ratio_under.Γ ratio_Ratio_under.A Tryd.f44 (.agg (.pair (.lst (.int .u32)) (.lst (.int .u32)))) (.agg (.lst (.int .u32))) a0
noncomputable def ratio_Ratio_under.ent : FnE := .plain (.agg (.pair (.lst (.int .u32)) (.lst (.int .u32)))) (.agg (.lst (.int .u32))) false fun x => ratio_Ratio_under.f x
theorem ratio_Ratio_under.f_eq {a0 : (List Int) × List Int} : ratio_Ratio_under.f a0 =
    (M.bind (nat_Nat_Bits.f a0.2) fun t1 => (if t1 = 0 then (M.bind (nat_Of.f 1) fun t2 => (M.ret t2)) else (M.ret a0.2))) := by kernel_rfl
/-! ### ratio_Ratio_Terms -/
noncomputable def ratio_Ratio_Terms.Γ : Ctx := ⟨tys, fun f => bif Nat.beq f 44 then some ratio_Ratio_under.ent else (none), globs, eqs⟩
def ratio_Ratio_Terms.A : Live := fun i => none
noncomputable def ratio_Ratio_Terms.f (a0 : (List Int) × List Int) : M ((List Int) × List Int) := evFn ratio_Ratio_Terms.Γ ratio_Ratio_Terms.A Tryd.f18 (.agg (.pair (.lst (.int .u32)) (.lst (.int .u32)))) (.pair (.agg (.lst (.int .u32))) (.agg (.lst (.int .u32)))) a0
noncomputable def ratio_Ratio_Terms.ent : FnE := .plain (.agg (.pair (.lst (.int .u32)) (.lst (.int .u32)))) (.pair (.agg (.lst (.int .u32))) (.agg (.lst (.int .u32)))) true fun x => ratio_Ratio_Terms.f x
theorem ratio_Ratio_Terms.f_eq {a0 : (List Int) × List Int} : ratio_Ratio_Terms.f a0 =
    (M.bind (ratio_Ratio_under.f a0) fun t1 => (M.ret (a0.1, t1))) := by kernel_rfl
/-! ### nat_Nat_at -/
noncomputable def nat_Nat_at.Γ : Ctx := ⟨tys, fun f => none, globs, eqs⟩
def nat_Nat_at.A : Live := fun i => none
noncomputable def nat_Nat_at.f (a0 : List Int) (a1 : Int) : M Int := evFn nat_Nat_at.Γ nat_Nat_at.A Tryd.f38 (.pair (.agg (.lst (.int .u32))) (.int .i64)) (.int .u32) (a0, a1)
noncomputable def nat_Nat_at.ent : FnE := .plain (.pair (.agg (.lst (.int .u32))) (.int .i64)) (.int .u32) false fun x => nat_Nat_at.f x.1 x.2
theorem nat_Nat_at.f_eq {a0 : List Int} {a1 : Int} : nat_Nat_at.f a0 a1 =
    (if a1 < (a0.length : Int) then (if 0 ≤ a1 then (if a1 < (a0.length : Int) then (M.ret (rdI a0 a1)) else M.none) else M.none) else (M.ret 0)) := by kernel_rfl
/-! ### nat_Add -/
noncomputable def nat_Add.Γ : Ctx := ⟨tys, fun f => bif Nat.beq f 8 then some nat_Made.ent else (bif Nat.beq f 37 then some mbits_Add32.ent else (bif Nat.beq f 38 then some nat_Nat_at.ent else (none))), globs, eqs⟩
def nat_Add.l0.live : List (Nat × LK) := [(2, .box [(.lst (.int .u32))]), (3, .box [(.lst (.int .u32))]), (4, .box [(.lst (.int .u32))]), (6, .own true (.int .u32)), (7, .val (.int .u32)), (20, .val (.int .i64)), (21, .val (.int .i64))]
def nat_Add.A : Live := fun i => bif Nat.beq i 10 then some nat_Add.l0.live else (none)
noncomputable def nat_Add.f (a0 : List Int) (a1 : List Int) : M (List Int) := evFn nat_Add.Γ nat_Add.A Tryd.f11 (.pair (.agg (.lst (.int .u32))) (.agg (.lst (.int .u32)))) (.agg (.lst (.int .u32))) (a0, a1)
noncomputable def nat_Add.ent : FnE := .plain (.pair (.agg (.lst (.int .u32))) (.agg (.lst (.int .u32)))) (.agg (.lst (.int .u32))) false fun x => nat_Add.f x.1 x.2
noncomputable def nat_Add.l0.c : Code × Kont (List Int) := focus nat_Add.Γ nat_Add.A (bodyOf Tryd.f11) (finQ nat_Add.Γ Tryd.f11.results.toList (.agg (.lst (.int .u32)))) [.r, .r, .r, .r, .l, .r, .l]
noncomputable def nat_Add.l0 (x2 : List Int) (x3 : List Int) (x4 : List Int) (x6 : List Int) (x7 : Int) (x20 : Int) (x21 : Int) : M (List Int) := loopOf nat_Add.Γ nat_Add.A nat_Add.l0.live nat_Add.l0.c (x2, x3, x4, x6, x7, x20, x21)
theorem nat_Add.l0_eq {x2 : List Int} {x3 : List Int} {x4 : List Int} {x6 : List Int} {x7 : Int} {x20 : Int} {x21 : Int} :
    roundOf nat_Add.Γ nat_Add.A nat_Add.l0.live nat_Add.l0.c (loopOf nat_Add.Γ nat_Add.A nat_Add.l0.live nat_Add.l0.c) (x2, x3, x4, x6, x7, x20, x21) =
    (if x21 < x20 then (M.bind (nat_Nat_at.f x2 x21) fun t1 => (M.bind (nat_Nat_at.f x3 x21) fun t2 => (M.bind (mbits_Add32.f t1 t2 x7) fun t3 => (if 0 ≤ x21 then (if x21 < (x6.length : Int) then (nat_Add.l0 x2 x3 x4 (x6.set x21.toNat t3.1) t3.2 x20 (IntKind.i64.wrap (x21 + 1))) else M.none) else M.none)))) else (M.bind (nat_Made.f x6) fun t4 => (M.ret t4))) := by kernel_rfl
theorem nat_Add.f_eq {a0 : List Int} {a1 : List Int} : nat_Add.f a0 a1 =
    (if 0 ≤ (IntKind.i64.wrap ((mxI (a0.length : Int) (a1.length : Int)) + 1)) then (if (IntKind.i64.wrap ((mxI (a0.length : Int) (a1.length : Int)) + 1)) ≤ 1099511627776 then (nat_Add.l0 a0 a1 ([] : List Int) (List.replicate (IntKind.i64.wrap ((mxI (a0.length : Int) (a1.length : Int)) + 1)).toNat (0 : Int)) 0 ((List.replicate (IntKind.i64.wrap ((mxI (a0.length : Int) (a1.length : Int)) + 1)).toNat (0 : Int)).length : Int) 0) else M.none) else M.none) := by kernel_rfl
/-! ### cmp_isNaN_int -/
noncomputable def cmp_isNaN_int.Γ : Ctx := ⟨tys, fun f => none, globs, eqs⟩
def cmp_isNaN_int.A : Live := fun i => none
noncomputable def cmp_isNaN_int.f (a0 : Int) : M Bool := evFn cmp_isNaN_int.Γ cmp_isNaN_int.A Tryd.f85 (.int .i64) .bool a0
noncomputable def cmp_isNaN_int.ent : FnE := .plain (.int .i64) .bool false fun x => cmp_isNaN_int.f x
theorem cmp_isNaN_int.f_eq {a0 : Int} : cmp_isNaN_int.f a0 =
    (M.ret (decide (a0 ≠ a0))) := by kernel_rfl
/-! ### cmp_Compare_int -/
noncomputable def cmp_Compare_int.Γ : Ctx := ⟨tys, fun f => bif Nat.beq f 85 then some cmp_isNaN_int.ent else (none), globs, eqs⟩
def cmp_Compare_int.A : Live := fun i => none
noncomputable def cmp_Compare_int.f (a0 : Int) (a1 : Int) : M Int := evFn cmp_Compare_int.Γ cmp_Compare_int.A Tryd.f66 (.pair (.int .i64) (.int .i64)) (.int .i64) (a0, a1)
noncomputable def cmp_Compare_int.ent : FnE := .plain (.pair (.int .i64) (.int .i64)) (.int .i64) false fun x => cmp_Compare_int.f x.1 x.2
theorem cmp_Compare_int.f_eq {a0 : Int} {a1 : Int} : cmp_Compare_int.f a0 a1 =
    (M.bind (cmp_isNaN_int.f a0) fun t1 => (M.bind (cmp_isNaN_int.f a1) fun t2 => (if t1 = true then (if t2 = true then (M.ret 0) else (M.ret (-1))) else (if t2 = true then (M.ret 1) else (if a0 < a1 then (M.ret (-1)) else (if a0 > a1 then (M.ret 1) else (M.ret 0))))))) := by kernel_rfl
/-! ### cmp_isNaN_uint32 -/
noncomputable def cmp_isNaN_uint32.Γ : Ctx := ⟨tys, fun f => none, globs, eqs⟩
def cmp_isNaN_uint32.A : Live := fun i => none
noncomputable def cmp_isNaN_uint32.f (a0 : Int) : M Bool := evFn cmp_isNaN_uint32.Γ cmp_isNaN_uint32.A Tryd.f86 (.int .u32) .bool a0
noncomputable def cmp_isNaN_uint32.ent : FnE := .plain (.int .u32) .bool false fun x => cmp_isNaN_uint32.f x
theorem cmp_isNaN_uint32.f_eq {a0 : Int} : cmp_isNaN_uint32.f a0 =
    (M.ret (decide (a0 ≠ a0))) := by kernel_rfl
/-! ### cmp_Compare_uint32 -/
noncomputable def cmp_Compare_uint32.Γ : Ctx := ⟨tys, fun f => bif Nat.beq f 86 then some cmp_isNaN_uint32.ent else (none), globs, eqs⟩
def cmp_Compare_uint32.A : Live := fun i => none
noncomputable def cmp_Compare_uint32.f (a0 : Int) (a1 : Int) : M Int := evFn cmp_Compare_uint32.Γ cmp_Compare_uint32.A Tryd.f67 (.pair (.int .u32) (.int .u32)) (.int .i64) (a0, a1)
noncomputable def cmp_Compare_uint32.ent : FnE := .plain (.pair (.int .u32) (.int .u32)) (.int .i64) false fun x => cmp_Compare_uint32.f x.1 x.2
theorem cmp_Compare_uint32.f_eq {a0 : Int} {a1 : Int} : cmp_Compare_uint32.f a0 a1 =
    (M.bind (cmp_isNaN_uint32.f a0) fun t1 => (M.bind (cmp_isNaN_uint32.f a1) fun t2 => (if t1 = true then (if t2 = true then (M.ret 0) else (M.ret (-1))) else (if t2 = true then (M.ret 1) else (if a0 < a1 then (M.ret (-1)) else (if a0 > a1 then (M.ret 1) else (M.ret 0))))))) := by kernel_rfl
/-! ### nat_Cmp -/
noncomputable def nat_Cmp.Γ : Ctx := ⟨tys, fun f => bif Nat.beq f 66 then some cmp_Compare_int.ent else (bif Nat.beq f 67 then some cmp_Compare_uint32.ent else (none)), globs, eqs⟩
def nat_Cmp.l0.live : List (Nat × LK) := [(2, .box [(.lst (.int .u32))]), (3, .box [(.lst (.int .u32))]), (6, .val (.int .i64))]
def nat_Cmp.A : Live := fun i => bif Nat.beq i 10 then some nat_Cmp.l0.live else (none)
noncomputable def nat_Cmp.f (a0 : List Int) (a1 : List Int) : M Int := evFn nat_Cmp.Γ nat_Cmp.A Tryd.f42 (.pair (.agg (.lst (.int .u32))) (.agg (.lst (.int .u32)))) (.int .i64) (a0, a1)
noncomputable def nat_Cmp.ent : FnE := .plain (.pair (.agg (.lst (.int .u32))) (.agg (.lst (.int .u32)))) (.int .i64) false fun x => nat_Cmp.f x.1 x.2
noncomputable def nat_Cmp.l0.c : Code × Kont Int := focus nat_Cmp.Γ nat_Cmp.A (bodyOf Tryd.f42) (finQ nat_Cmp.Γ Tryd.f42.results.toList (.int .i64)) [.r, .r, .l, .r, .l]
noncomputable def nat_Cmp.l0 (x2 : List Int) (x3 : List Int) (x6 : Int) : M Int := loopOf nat_Cmp.Γ nat_Cmp.A nat_Cmp.l0.live nat_Cmp.l0.c (x2, x3, x6)
theorem nat_Cmp.l0_eq {x2 : List Int} {x3 : List Int} {x6 : Int} :
    roundOf nat_Cmp.Γ nat_Cmp.A nat_Cmp.l0.live nat_Cmp.l0.c (loopOf nat_Cmp.Γ nat_Cmp.A nat_Cmp.l0.live nat_Cmp.l0.c) (x2, x3, x6) =
    (if x6 ≥ 0 then (if 0 ≤ x6 then (if x6 < (x2.length : Int) then (if 0 ≤ x6 then (if x6 < (x3.length : Int) then (M.bind (cmp_Compare_uint32.f (rdI x2 x6) (rdI x3 x6)) fun t1 => (if t1 ≠ 0 then (M.ret t1) else (nat_Cmp.l0 x2 x3 (IntKind.i64.wrap (x6 - 1))))) else M.none) else M.none) else M.none) else M.none) else (M.ret 0)) := by kernel_rfl
theorem nat_Cmp.f_eq {a0 : List Int} {a1 : List Int} : nat_Cmp.f a0 a1 =
    (M.bind (cmp_Compare_int.f (a0.length : Int) (a1.length : Int)) fun t1 => (if t1 ≠ 0 then (M.ret t1) else (nat_Cmp.l0 a0 a1 (IntKind.i64.wrap ((a0.length : Int) - 1))))) := by kernel_rfl
/-! ### quot_Half -/
noncomputable def quot_Half.Γ : Ctx := ⟨tys, fun f => bif Nat.beq f 11 then some nat_Add.ent else (bif Nat.beq f 13 then some nat_Of.ent else (bif Nat.beq f 42 then some nat_Cmp.ent else (bif Nat.beq f 46 then some quot_Div.ent else (none)))), globs, eqs⟩
def quot_Half.A : Live := fun i => none
noncomputable def quot_Half.f (a0 : List Int) (a1 : List Int) : M ((List Int) × Bool) := evFn quot_Half.Γ quot_Half.A Tryd.f61 (.pair (.agg (.lst (.int .u32))) (.agg (.lst (.int .u32)))) (.pair (.agg (.lst (.int .u32))) .bool) (a0, a1)
noncomputable def quot_Half.ent : FnE := .plain (.pair (.agg (.lst (.int .u32))) (.agg (.lst (.int .u32)))) (.pair (.agg (.lst (.int .u32))) .bool) true fun x => quot_Half.f x.1 x.2
theorem quot_Half.f_eq {a0 : List Int} {a1 : List Int} : quot_Half.f a0 a1 =
    (M.bind (quot_Div.f a0 a1) fun t1 => (if t1.2.2 = true then (M.bind (nat_Add.f t1.2.1 t1.2.1) fun t2 => (M.bind (nat_Cmp.f t2 a1) fun t3 => (if t3 ≥ 0 then (M.bind (nat_Of.f 1) fun t4 => (M.bind (nat_Add.f t1.1 t4) fun t5 => (M.ret (t5, t1.2.2)))) else (M.ret (t1.1, t1.2.2))))) else (M.ret (t1.1, t1.2.2)))) := by kernel_rfl
/-! ### round_whole -/
noncomputable def round_whole.Γ : Ctx := ⟨tys, fun f => bif Nat.beq f 18 then some ratio_Ratio_Terms.ent else (bif Nat.beq f 61 then some quot_Half.ent else (none)), globs, eqs⟩
def round_whole.A : Live := fun i => none
noncomputable def round_whole.f (a0 : (List Int) × List Int) : M (List Int) := evFn round_whole.Γ round_whole.A Tryd.f34 (.agg (.pair (.lst (.int .u32)) (.lst (.int .u32)))) (.agg (.lst (.int .u32))) a0
noncomputable def round_whole.ent : FnE := .plain (.agg (.pair (.lst (.int .u32)) (.lst (.int .u32)))) (.agg (.lst (.int .u32))) false fun x => round_whole.f x
theorem round_whole.f_eq {a0 : (List Int) × List Int} : round_whole.f a0 =
    (M.bind (ratio_Ratio_Terms.f a0) fun t1 => (M.bind (quot_Half.f t1.1 t1.2) fun t2 => (M.ret t2.1))) := by kernel_rfl
/-! ### ratio_Ratio_Scale -/
noncomputable def ratio_Ratio_Scale.Γ : Ctx := ⟨tys, fun f => bif Nat.beq f 14 then some tens_Ten.ent else (bif Nat.beq f 30 then some ratio_lowest.ent else (bif Nat.beq f 44 then some ratio_Ratio_under.ent else (bif Nat.beq f 45 then some times_Mul.ent else (none)))), globs, eqs⟩
def ratio_Ratio_Scale.A : Live := fun i => none
noncomputable def ratio_Ratio_Scale.f (a0 : (List Int) × List Int) (a1 : Int) : M ((List Int) × List Int) := evFn ratio_Ratio_Scale.Γ ratio_Ratio_Scale.A Tryd.f35 (.pair (.agg (.pair (.lst (.int .u32)) (.lst (.int .u32)))) (.int .i64)) (.agg (.pair (.lst (.int .u32)) (.lst (.int .u32)))) (a0, a1)
noncomputable def ratio_Ratio_Scale.ent : FnE := .plain (.pair (.agg (.pair (.lst (.int .u32)) (.lst (.int .u32)))) (.int .i64)) (.agg (.pair (.lst (.int .u32)) (.lst (.int .u32)))) false fun x => ratio_Ratio_Scale.f x.1 x.2
theorem ratio_Ratio_Scale.f_eq {a0 : (List Int) × List Int} {a1 : Int} : ratio_Ratio_Scale.f a0 a1 =
    (if a1 < (-5000) then (M.ret (([] : List Int), ([] : List Int))) else (if a1 > 5000 then (M.ret (([] : List Int), ([] : List Int))) else (if a1 < 0 then (M.bind (ratio_Ratio_under.f a0) fun t1 => (M.bind (tens_Ten.f (IntKind.i64.wrap (0 - a1))) fun t2 => (M.bind (times_Mul.f t1 t2) fun t3 => (M.bind (ratio_lowest.f a0.1 t3) fun t4 => (M.ret t4))))) else (M.bind (tens_Ten.f a1) fun t5 => (M.bind (times_Mul.f a0.1 t5) fun t6 => (M.bind (ratio_Ratio_under.f a0) fun t7 => (M.bind (ratio_lowest.f t6 t7) fun t8 => (M.ret t8)))))))) := by kernel_rfl
/-! ### ratio_crossed -/
noncomputable def ratio_crossed.Γ : Ctx := ⟨tys, fun f => bif Nat.beq f 44 then some ratio_Ratio_under.ent else (bif Nat.beq f 45 then some times_Mul.ent else (none)), globs, eqs⟩
def ratio_crossed.A : Live := fun i => none
noncomputable def ratio_crossed.f (a0 : (List Int) × List Int) (a1 : (List Int) × List Int) : M ((List Int) × (List Int) × List Int) := evFn ratio_crossed.Γ ratio_crossed.A Tryd.f41 (.pair (.agg (.pair (.lst (.int .u32)) (.lst (.int .u32)))) (.agg (.pair (.lst (.int .u32)) (.lst (.int .u32))))) (.pair (.agg (.lst (.int .u32))) (.pair (.agg (.lst (.int .u32))) (.agg (.lst (.int .u32))))) (a0, a1)
noncomputable def ratio_crossed.ent : FnE := .plain (.pair (.agg (.pair (.lst (.int .u32)) (.lst (.int .u32)))) (.agg (.pair (.lst (.int .u32)) (.lst (.int .u32))))) (.pair (.agg (.lst (.int .u32))) (.pair (.agg (.lst (.int .u32))) (.agg (.lst (.int .u32))))) true fun x => ratio_crossed.f x.1 x.2
theorem ratio_crossed.f_eq {a0 : (List Int) × List Int} {a1 : (List Int) × List Int} : ratio_crossed.f a0 a1 =
    (M.bind (ratio_Ratio_under.f a0) fun t1 => (M.bind (ratio_Ratio_under.f a1) fun t2 => (M.bind (times_Mul.f a0.1 t2) fun t3 => (M.bind (times_Mul.f a1.1 t1) fun t4 => (M.bind (times_Mul.f t1 t2) fun t5 => (M.ret (t3, t4, t5))))))) := by kernel_rfl
/-! ### ratio_Cmp -/
noncomputable def ratio_Cmp.Γ : Ctx := ⟨tys, fun f => bif Nat.beq f 41 then some ratio_crossed.ent else (bif Nat.beq f 42 then some nat_Cmp.ent else (none)), globs, eqs⟩
def ratio_Cmp.A : Live := fun i => none
noncomputable def ratio_Cmp.f (a0 : (List Int) × List Int) (a1 : (List Int) × List Int) : M Int := evFn ratio_Cmp.Γ ratio_Cmp.A Tryd.f15 (.pair (.agg (.pair (.lst (.int .u32)) (.lst (.int .u32)))) (.agg (.pair (.lst (.int .u32)) (.lst (.int .u32))))) (.int .i64) (a0, a1)
noncomputable def ratio_Cmp.ent : FnE := .plain (.pair (.agg (.pair (.lst (.int .u32)) (.lst (.int .u32)))) (.agg (.pair (.lst (.int .u32)) (.lst (.int .u32))))) (.int .i64) false fun x => ratio_Cmp.f x.1 x.2
theorem ratio_Cmp.f_eq {a0 : (List Int) × List Int} {a1 : (List Int) × List Int} : ratio_Cmp.f a0 a1 =
    (M.bind (ratio_crossed.f a0 a1) fun t1 => (M.bind (nat_Cmp.f t1.1 t1.2.1) fun t2 => (M.ret t2))) := by kernel_rfl
/-! ### digits_Count -/
noncomputable def digits_Count.Γ : Ctx := ⟨tys, fun f => bif Nat.beq f 28 then some digits_Text.ent else (none), globs, eqs⟩
def digits_Count.A : Live := fun i => none
noncomputable def digits_Count.f (a0 : List Int) : M Int := evFn digits_Count.Γ digits_Count.A Tryd.f29 (.agg (.lst (.int .u32))) (.int .i64) a0
noncomputable def digits_Count.ent : FnE := .plain (.agg (.lst (.int .u32))) (.int .i64) false fun x => digits_Count.f x
theorem digits_Count.f_eq {a0 : List Int} : digits_Count.f a0 =
    (M.bind (digits_Text.f a0) fun t1 => (M.ret (t1.size : Int))) := by kernel_rfl
/-! ### nat_Sub -/
noncomputable def nat_Sub.Γ : Ctx := ⟨tys, fun f => bif Nat.beq f 8 then some nat_Made.ent else (bif Nat.beq f 38 then some nat_Nat_at.ent else (bif Nat.beq f 42 then some nat_Cmp.ent else (bif Nat.beq f 68 then some mbits_Sub32.ent else (none)))), globs, eqs⟩
def nat_Sub.l0.live : List (Nat × LK) := [(2, .box [(.lst (.int .u32))]), (3, .box [(.lst (.int .u32))]), (4, .box [(.lst (.int .u32))]), (6, .own true (.int .u32)), (7, .val (.int .u32)), (19, .val (.int .i64)), (20, .val (.int .i64))]
def nat_Sub.A : Live := fun i => bif Nat.beq i 12 then some nat_Sub.l0.live else (none)
noncomputable def nat_Sub.f (a0 : List Int) (a1 : List Int) : M ((List Int) × Bool) := evFn nat_Sub.Γ nat_Sub.A Tryd.f43 (.pair (.agg (.lst (.int .u32))) (.agg (.lst (.int .u32)))) (.pair (.agg (.lst (.int .u32))) .bool) (a0, a1)
noncomputable def nat_Sub.ent : FnE := .plain (.pair (.agg (.lst (.int .u32))) (.agg (.lst (.int .u32)))) (.pair (.agg (.lst (.int .u32))) .bool) true fun x => nat_Sub.f x.1 x.2
noncomputable def nat_Sub.l0.c : Code × Kont ((List Int) × Bool) := focus nat_Sub.Γ nat_Sub.A (bodyOf Tryd.f43) (finQ nat_Sub.Γ Tryd.f43.results.toList (.pair (.agg (.lst (.int .u32))) .bool)) [.r, .r, .r, .r, .l, .r, .l]
noncomputable def nat_Sub.l0 (x2 : List Int) (x3 : List Int) (x4 : List Int) (x6 : List Int) (x7 : Int) (x19 : Int) (x20 : Int) : M ((List Int) × Bool) := loopOf nat_Sub.Γ nat_Sub.A nat_Sub.l0.live nat_Sub.l0.c (x2, x3, x4, x6, x7, x19, x20)
theorem nat_Sub.l0_eq {x2 : List Int} {x3 : List Int} {x4 : List Int} {x6 : List Int} {x7 : Int} {x19 : Int} {x20 : Int} :
    roundOf nat_Sub.Γ nat_Sub.A nat_Sub.l0.live nat_Sub.l0.c (loopOf nat_Sub.Γ nat_Sub.A nat_Sub.l0.live nat_Sub.l0.c) (x2, x3, x4, x6, x7, x19, x20) =
    (if x20 < x19 then (M.bind (nat_Nat_at.f x2 x20) fun t1 => (M.bind (nat_Nat_at.f x3 x20) fun t2 => (M.bind (mbits_Sub32.f t1 t2 x7) fun t3 => (if 0 ≤ x20 then (if x20 < (x6.length : Int) then (nat_Sub.l0 x2 x3 x4 (x6.set x20.toNat t3.1) t3.2 x19 (IntKind.i64.wrap (x20 + 1))) else M.none) else M.none)))) else (M.bind (nat_Made.f x6) fun t4 => (M.ret (t4, true)))) := by kernel_rfl
theorem nat_Sub.f_eq {a0 : List Int} {a1 : List Int} : nat_Sub.f a0 a1 =
    (M.bind (nat_Cmp.f a0 a1) fun t1 => (if t1 < 0 then (M.ret (([] : List Int), false)) else (if 0 ≤ (a0.length : Int) then (if (a0.length : Int) ≤ 1099511627776 then (nat_Sub.l0 a0 a1 ([] : List Int) (List.replicate (a0.length : Int).toNat (0 : Int)) 0 ((List.replicate (a0.length : Int).toNat (0 : Int)).length : Int) 0) else M.none) else M.none))) := by kernel_rfl
/-! ### ratio_Away -/
noncomputable def ratio_Away.Γ : Ctx := ⟨tys, fun f => bif Nat.beq f 30 then some ratio_lowest.ent else (bif Nat.beq f 41 then some ratio_crossed.ent else (bif Nat.beq f 42 then some nat_Cmp.ent else (bif Nat.beq f 43 then some nat_Sub.ent else (none)))), globs, eqs⟩
def ratio_Away.A : Live := fun i => none
noncomputable def ratio_Away.f (a0 : (List Int) × List Int) (a1 : (List Int) × List Int) : M ((List Int) × List Int) := evFn ratio_Away.Γ ratio_Away.A Tryd.f16 (.pair (.agg (.pair (.lst (.int .u32)) (.lst (.int .u32)))) (.agg (.pair (.lst (.int .u32)) (.lst (.int .u32))))) (.agg (.pair (.lst (.int .u32)) (.lst (.int .u32)))) (a0, a1)
noncomputable def ratio_Away.ent : FnE := .plain (.pair (.agg (.pair (.lst (.int .u32)) (.lst (.int .u32)))) (.agg (.pair (.lst (.int .u32)) (.lst (.int .u32))))) (.agg (.pair (.lst (.int .u32)) (.lst (.int .u32)))) false fun x => ratio_Away.f x.1 x.2
theorem ratio_Away.f_eq {a0 : (List Int) × List Int} {a1 : (List Int) × List Int} : ratio_Away.f a0 a1 =
    (M.bind (ratio_crossed.f a0 a1) fun t1 => (M.bind (nat_Cmp.f t1.1 t1.2.1) fun t2 => (if t2 < 0 then (M.bind (nat_Sub.f t1.2.1 t1.1) fun t3 => (M.bind (ratio_lowest.f t3.1 t1.2.2) fun t4 => (M.ret t4))) else (M.bind (nat_Sub.f t1.1 t1.2.1) fun t5 => (M.bind (ratio_lowest.f t5.1 t1.2.2) fun t6 => (M.ret t6)))))) := by kernel_rfl
/-! ### ratio_Mul -/
noncomputable def ratio_Mul.Γ : Ctx := ⟨tys, fun f => bif Nat.beq f 30 then some ratio_lowest.ent else (bif Nat.beq f 44 then some ratio_Ratio_under.ent else (bif Nat.beq f 45 then some times_Mul.ent else (none))), globs, eqs⟩
def ratio_Mul.A : Live := fun i => none
noncomputable def ratio_Mul.f (a0 : (List Int) × List Int) (a1 : (List Int) × List Int) : M ((List Int) × List Int) := evFn ratio_Mul.Γ ratio_Mul.A Tryd.f19 (.pair (.agg (.pair (.lst (.int .u32)) (.lst (.int .u32)))) (.agg (.pair (.lst (.int .u32)) (.lst (.int .u32))))) (.agg (.pair (.lst (.int .u32)) (.lst (.int .u32)))) (a0, a1)
noncomputable def ratio_Mul.ent : FnE := .plain (.pair (.agg (.pair (.lst (.int .u32)) (.lst (.int .u32)))) (.agg (.pair (.lst (.int .u32)) (.lst (.int .u32))))) (.agg (.pair (.lst (.int .u32)) (.lst (.int .u32)))) false fun x => ratio_Mul.f x.1 x.2
theorem ratio_Mul.f_eq {a0 : (List Int) × List Int} {a1 : (List Int) × List Int} : ratio_Mul.f a0 a1 =
    (M.bind (times_Mul.f a0.1 a1.1) fun t1 => (M.bind (ratio_Ratio_under.f a0) fun t2 => (M.bind (ratio_Ratio_under.f a1) fun t3 => (M.bind (times_Mul.f t2 t3) fun t4 => (M.bind (ratio_lowest.f t1 t4) fun t5 => (M.ret t5)))))) := by kernel_rfl
/-! ### round_Step -/
noncomputable def round_Step.Γ : Ctx := ⟨tys, fun f => bif Nat.beq f 7 then some ratio_Of.ent else (bif Nat.beq f 13 then some nat_Of.ent else (bif Nat.beq f 18 then some ratio_Ratio_Terms.ent else (bif Nat.beq f 19 then some ratio_Mul.ent else (bif Nat.beq f 34 then some round_whole.ent else (none))))), globs, eqs⟩
def round_Step.A : Live := fun i => none
noncomputable def round_Step.f (a0 : (List Int) × List Int) (a1 : (List Int) × List Int) : M (((List Int) × List Int) × Bool) := evFn round_Step.Γ round_Step.A Tryd.f17 (.pair (.agg (.pair (.lst (.int .u32)) (.lst (.int .u32)))) (.agg (.pair (.lst (.int .u32)) (.lst (.int .u32))))) (.pair (.agg (.pair (.lst (.int .u32)) (.lst (.int .u32)))) .bool) (a0, a1)
noncomputable def round_Step.ent : FnE := .plain (.pair (.agg (.pair (.lst (.int .u32)) (.lst (.int .u32)))) (.agg (.pair (.lst (.int .u32)) (.lst (.int .u32))))) (.pair (.agg (.pair (.lst (.int .u32)) (.lst (.int .u32)))) .bool) true fun x => round_Step.f x.1 x.2
theorem round_Step.f_eq {a0 : (List Int) × List Int} {a1 : (List Int) × List Int} : round_Step.f a0 a1 =
    (M.bind (ratio_Ratio_Terms.f a1) fun t1 => (M.bind (ratio_Of.f t1.2 t1.1) fun t2 => (if (!t2.2) = true then (M.ret ((([] : List Int), ([] : List Int)), false)) else (M.bind (ratio_Mul.f a0 t2.1) fun t3 => (M.bind (round_whole.f t3) fun t4 => (M.bind (nat_Of.f 1) fun t5 => (M.bind (ratio_Of.f t4 t5) fun t6 => (M.bind (ratio_Mul.f t6.1 a1) fun t7 => (M.ret (t7, true)))))))))) := by kernel_rfl
/-! ### digits_Trim -/
noncomputable def digits_Trim.Γ : Ctx := ⟨tys, fun f => bif Nat.beq f 54 then some strings_TrimRight.ent else (none), globs, eqs⟩
def digits_Trim.A : Live := fun i => none
noncomputable def digits_Trim.f (a0 : ByteArray) : M ByteArray := evFn digits_Trim.Γ digits_Trim.A Tryd.f23 .str .str a0
noncomputable def digits_Trim.ent : FnE := .plain .str .str false fun x => digits_Trim.f x
theorem digits_Trim.f_eq {a0 : ByteArray} : digits_Trim.f a0 =
    (M.bind (strings_TrimRight.f a0 (⟨#[48]⟩ : ByteArray)) fun t1 => (M.ret t1)) := by kernel_rfl
/-! ### digits_digit -/
noncomputable def digits_digit.Γ : Ctx := ⟨tys, fun f => none, globs, eqs⟩
def digits_digit.A : Live := fun i => none
noncomputable def digits_digit.f (a0 : Int) : M Bool := evFn digits_digit.Γ digits_digit.A Tryd.f56 (.int .u8) .bool a0
noncomputable def digits_digit.ent : FnE := .plain (.int .u8) .bool false fun x => digits_digit.f x
theorem digits_digit.f_eq {a0 : Int} : digits_digit.f a0 =
    (if a0 ≥ 48 then (M.ret (decide (a0 ≤ 57))) else (M.ret false)) := by kernel_rfl
/-! ### digits_Parse -/
noncomputable def digits_Parse.Γ : Ctx := ⟨tys, fun f => bif Nat.beq f 11 then some nat_Add.ent else (bif Nat.beq f 13 then some nat_Of.ent else (bif Nat.beq f 14 then some tens_Ten.ent else (bif Nat.beq f 45 then some times_Mul.ent else (bif Nat.beq f 56 then some digits_digit.ent else (bif Nat.beq f 57 then some strconv_ParseUint.ent else (none)))))), globs, eqs⟩
def digits_Parse.l0.live : List (Nat × LK) := [(0, .val .str), (2, .box [(.lst (.int .u32))]), (14, .val (.lst (.int .u8))), (15, .val (.int .i64)), (16, .val (.int .i64))]
def digits_Parse.l1.live : List (Nat × LK) := [(0, .val .str), (2, .box [(.lst (.int .u32))]), (6, .box [(.lst (.int .u32))])]
def digits_Parse.A : Live := fun i => bif Nat.beq i 8 then some digits_Parse.l0.live else (bif Nat.beq i 20 then some digits_Parse.l1.live else (none))
noncomputable def digits_Parse.f (a0 : ByteArray) : M ((List Int) × Bool) := evFn digits_Parse.Γ digits_Parse.A Tryd.f27 .str (.pair (.agg (.lst (.int .u32))) .bool) a0
noncomputable def digits_Parse.ent : FnE := .plain .str (.pair (.agg (.lst (.int .u32))) .bool) true fun x => digits_Parse.f x
noncomputable def digits_Parse.l0.c : Code × Kont ((List Int) × Bool) := focus digits_Parse.Γ digits_Parse.A (bodyOf Tryd.f27) (finQ digits_Parse.Γ Tryd.f27.results.toList (.pair (.agg (.lst (.int .u32))) .bool)) [.r, .r, .l, .r, .l]
noncomputable def digits_Parse.l0 (x0 : ByteArray) (x2 : List Int) (x14 : List Int) (x15 : Int) (x16 : Int) : M ((List Int) × Bool) := loopOf digits_Parse.Γ digits_Parse.A digits_Parse.l0.live digits_Parse.l0.c (x0, x2, x14, x15, x16)
noncomputable def digits_Parse.l1.c : Code × Kont ((List Int) × Bool) := focus digits_Parse.Γ digits_Parse.A (bodyOf Tryd.f27) (finQ digits_Parse.Γ Tryd.f27.results.toList (.pair (.agg (.lst (.int .u32))) .bool)) [.r, .r, .r, .r, .l, .l]
noncomputable def digits_Parse.l1 (x0 : ByteArray) (x2 : List Int) (x6 : List Int) : M ((List Int) × Bool) := loopOf digits_Parse.Γ digits_Parse.A digits_Parse.l1.live digits_Parse.l1.c (x0, x2, x6)
theorem digits_Parse.l0_eq {x0 : ByteArray} {x2 : List Int} {x14 : List Int} {x15 : Int} {x16 : Int} :
    roundOf digits_Parse.Γ digits_Parse.A digits_Parse.l0.live digits_Parse.l0.c (loopOf digits_Parse.Γ digits_Parse.A digits_Parse.l0.live digits_Parse.l0.c) (x0, x2, x14, x15, x16) =
    (if x16 < x15 then (if 0 ≤ x16 then (if x16 < (x14.length : Int) then (M.bind (digits_digit.f (rdI x14 x16)) fun t1 => (if (!t1) = true then (M.ret (([] : List Int), false)) else (digits_Parse.l0 x0 x2 x14 x15 (IntKind.i64.wrap (x16 + 1))))) else M.none) else M.none) else (digits_Parse.l1 x0 x2 ([] : List Int))) := by kernel_rfl
theorem digits_Parse.l1_eq {x0 : ByteArray} {x2 : List Int} {x6 : List Int} :
    roundOf digits_Parse.Γ digits_Parse.A digits_Parse.l1.live digits_Parse.l1.c (loopOf digits_Parse.Γ digits_Parse.A digits_Parse.l1.live digits_Parse.l1.c) (x0, x2, x6) =
    (if ¬ x0 = (⟨#[]⟩ : ByteArray) then (if 0 ≤ (mnI (x0.size : Int) 9) then (if (mnI (x0.size : Int) 9) ≤ (x0.size : Int) then (M.bind (strconv_ParseUint.f (x0.extract 0 (mnI (x0.size : Int) 9).toNat) 10 64) fun t1 => (M.bind (tens_Ten.f (mnI (x0.size : Int) 9)) fun t2 => (M.bind (times_Mul.f x6 t2) fun t3 => (M.bind (nat_Of.f t1.1) fun t4 => (M.bind (nat_Add.f t3 t4) fun t5 => (if 0 ≤ (mnI (x0.size : Int) 9) then (if (mnI (x0.size : Int) 9) ≤ (x0.size : Int) then (digits_Parse.l1 (x0.extract (mnI (x0.size : Int) 9).toNat x0.size) x2 t5) else M.none) else M.none)))))) else M.none) else M.none) else (M.ret (x6, true))) := by kernel_rfl
theorem digits_Parse.f_eq {a0 : ByteArray} : digits_Parse.f a0 =
    (if a0 = (⟨#[]⟩ : ByteArray) then (M.ret (([] : List Int), false)) else (digits_Parse.l0 a0 ([] : List Int) (bytesOf a0) ((bytesOf a0).length : Int) 0)) := by kernel_rfl
/-! ### numerarylaw06_wakes -/
noncomputable def numerarylaw06_wakes.Γ : Ctx := ⟨tys, fun f => bif Nat.beq f 13 then some nat_Of.ent else (bif Nat.beq f 23 then some digits_Trim.ent else (bif Nat.beq f 25 then some digits_Pad.ent else (bif Nat.beq f 27 then some digits_Parse.ent else (bif Nat.beq f 28 then some digits_Text.ent else (bif Nat.beq f 29 then some digits_Count.ent else (bif Nat.beq f 55 then some nat_Nat_Small.ent else (none))))))), globs, eqs⟩
def numerarylaw06_wakes.A : Live := fun i => none
noncomputable def numerarylaw06_wakes.f (_ : Unit) : M Bool := evFn numerarylaw06_wakes.Γ numerarylaw06_wakes.A Tryd.f24 .nil .bool ()
noncomputable def numerarylaw06_wakes.ent : FnE := .plain .nil .bool false fun x => numerarylaw06_wakes.f ()
theorem numerarylaw06_wakes.f_eq : numerarylaw06_wakes.f () =
    (M.bind (digits_Parse.f (⟨#[48, 48, 49, 50, 48]⟩ : ByteArray)) fun t1 => (M.bind (nat_Nat_Small.f t1.1) fun t2 => (M.bind (digits_Parse.f (⟨#[49, 97]⟩ : ByteArray)) fun t3 => (M.bind (nat_Of.f 18446744073709551615) fun t4 => (M.bind (digits_Text.f t4) fun t5 => (if t5 = (⟨#[49, 56, 52, 52, 54, 55, 52, 52, 48, 55, 51, 55, 48, 57, 53, 53, 49, 54, 49, 53]⟩ : ByteArray) then (if t1.2 = true then (if t2.2 = true then (if t2.1 = 120 then (if (!t3.2) = true then (M.bind (digits_Pad.f (⟨#[55]⟩ : ByteArray) 3) fun t6 => (if t6 = (⟨#[48, 48, 55]⟩ : ByteArray) then (M.bind (digits_Trim.f (⟨#[49, 50, 48, 48]⟩ : ByteArray)) fun t7 => (if t7 = (⟨#[49, 50]⟩ : ByteArray) then (M.bind (digits_Count.f ([] : List Int)) fun t8 => (M.ret (decide (t8 = 1)))) else (M.ret false))) else (M.ret false))) else (M.ret false)) else (M.ret false)) else (M.ret false)) else (M.ret false)) else (M.ret false))))))) := by kernel_rfl
/-! ### numerarylaw06_DigitsJoin_1 -/
noncomputable def numerarylaw06_DigitsJoin_1.Γ : Ctx := ⟨tys, fun f => none, globs, eqs⟩
def numerarylaw06_DigitsJoin_1.l0.live : List (Nat × LK) := [(3, .val .str), (10, .val (.lst (.int .u8))), (11, .val (.int .i64)), (12, .val (.int .i64))]
def numerarylaw06_DigitsJoin_1.A : Live := fun i => bif Nat.beq i 6 then some numerarylaw06_DigitsJoin_1.l0.live else (none)
noncomputable def numerarylaw06_DigitsJoin_1.f (a0 : List Int) : M ByteArray := evFn numerarylaw06_DigitsJoin_1.Γ numerarylaw06_DigitsJoin_1.A Tryd.f26 (.lst (.int .u8)) .str a0
noncomputable def numerarylaw06_DigitsJoin_1.ent : FnE := .plain (.lst (.int .u8)) .str false fun x => numerarylaw06_DigitsJoin_1.f x
noncomputable def numerarylaw06_DigitsJoin_1.l0.c : Code × Kont ByteArray := focus numerarylaw06_DigitsJoin_1.Γ numerarylaw06_DigitsJoin_1.A (bodyOf Tryd.f26) (finQ numerarylaw06_DigitsJoin_1.Γ Tryd.f26.results.toList .str) [.r, .r, .l, .r, .l]
noncomputable def numerarylaw06_DigitsJoin_1.l0 (x3 : ByteArray) (x10 : List Int) (x11 : Int) (x12 : Int) : M ByteArray := loopOf numerarylaw06_DigitsJoin_1.Γ numerarylaw06_DigitsJoin_1.A numerarylaw06_DigitsJoin_1.l0.live numerarylaw06_DigitsJoin_1.l0.c (x3, x10, x11, x12)
theorem numerarylaw06_DigitsJoin_1.l0_eq {x3 : ByteArray} {x10 : List Int} {x11 : Int} {x12 : Int} :
    roundOf numerarylaw06_DigitsJoin_1.Γ numerarylaw06_DigitsJoin_1.A numerarylaw06_DigitsJoin_1.l0.live numerarylaw06_DigitsJoin_1.l0.c (loopOf numerarylaw06_DigitsJoin_1.Γ numerarylaw06_DigitsJoin_1.A numerarylaw06_DigitsJoin_1.l0.live numerarylaw06_DigitsJoin_1.l0.c) (x3, x10, x11, x12) =
    (if x12 < x11 then (if 0 ≤ x12 then (if x12 < (x10.length : Int) then (if x3.size + (strOf ([IntKind.u8.wrap (48 + ((rdI x10 x12).tmod 10))] : List Int)).size ≤ 9223372036854775807 then (numerarylaw06_DigitsJoin_1.l0 (x3 ++ (strOf ([IntKind.u8.wrap (48 + ((rdI x10 x12).tmod 10))] : List Int))) x10 x11 (IntKind.i64.wrap (x12 + 1))) else M.none) else M.none) else M.none) else (M.ret x3)) := by kernel_rfl
theorem numerarylaw06_DigitsJoin_1.f_eq {a0 : List Int} : numerarylaw06_DigitsJoin_1.f a0 =
    (if 0 ≤ (mnI (a0.length : Int) 80) then (if (mnI (a0.length : Int) 80) ≤ (a0.length : Int) then (numerarylaw06_DigitsJoin_1.l0 (⟨#[]⟩ : ByteArray) (a0.take (mnI (a0.length : Int) 80).toNat) ((a0.take (mnI (a0.length : Int) 80).toNat).length : Int) 0) else M.none) else M.none) := by kernel_rfl
/-! ### numerarylaw06_DigitsJoin -/
noncomputable def numerarylaw06_DigitsJoin.Γ : Ctx := ⟨tys, fun f => bif Nat.beq f 24 then some numerarylaw06_wakes.ent else (bif Nat.beq f 26 then some numerarylaw06_DigitsJoin_1.ent else (bif Nat.beq f 27 then some digits_Parse.ent else (bif Nat.beq f 28 then some digits_Text.ent else (bif Nat.beq f 29 then some digits_Count.ent else (none))))), globs, eqs⟩
def numerarylaw06_DigitsJoin.A : Live := fun i => none
noncomputable def numerarylaw06_DigitsJoin.f (a0 : List Int) (a1 : List Int) : M Bool := evFn numerarylaw06_DigitsJoin.Γ numerarylaw06_DigitsJoin.A Tryd.f6 (.pair (.lst (.int .u8)) (.lst (.int .u8))) .bool (a0, a1)
noncomputable def numerarylaw06_DigitsJoin.ent : FnE := .plain (.pair (.lst (.int .u8)) (.lst (.int .u8))) .bool false fun x => numerarylaw06_DigitsJoin.f x.1 x.2
theorem numerarylaw06_DigitsJoin.f_eq {a0 : List Int} {a1 : List Int} : numerarylaw06_DigitsJoin.f a0 a1 =
    (M.bind (numerarylaw06_DigitsJoin_1.f a0) fun t1 => (if (⟨#[49]⟩ : ByteArray).size + t1.size ≤ 9223372036854775807 then (M.bind (numerarylaw06_DigitsJoin_1.f a1) fun t2 => (if (⟨#[50]⟩ : ByteArray).size + t2.size ≤ 9223372036854775807 then (M.bind (digits_Parse.f ((⟨#[49]⟩ : ByteArray) ++ t1)) fun t3 => (M.bind (digits_Parse.f ((⟨#[50]⟩ : ByteArray) ++ t2)) fun t4 => (if ((⟨#[49]⟩ : ByteArray) ++ t1).size + ((⟨#[50]⟩ : ByteArray) ++ t2).size ≤ 9223372036854775807 then (M.bind (digits_Parse.f (((⟨#[49]⟩ : ByteArray) ++ t1) ++ ((⟨#[50]⟩ : ByteArray) ++ t2))) fun t5 => (M.bind (numerarylaw06_wakes.f ()) fun t6 => (if t6 = true then (if t3.2 = true then (if t4.2 = true then (if t5.2 = true then (M.bind (digits_Text.f t5.1) fun t7 => (M.bind (digits_Text.f t3.1) fun t8 => (M.bind (digits_Text.f t4.1) fun t9 => (if t8.size + t9.size ≤ 9223372036854775807 then (if t7 = (t8 ++ t9) then (M.bind (digits_Count.f t5.1) fun t10 => (M.ret (decide (t10 = (IntKind.i64.wrap ((((⟨#[49]⟩ : ByteArray) ++ t1).size : Int) + (((⟨#[50]⟩ : ByteArray) ++ t2).size : Int))))))) else (M.ret false)) else M.none)))) else (M.ret false)) else (M.ret false)) else (M.ret false)) else (M.ret false)))) else M.none))) else M.none)) else M.none)) := by kernel_rfl
end Go.Proofs.YtbapeilokmphdaaDoor.F
