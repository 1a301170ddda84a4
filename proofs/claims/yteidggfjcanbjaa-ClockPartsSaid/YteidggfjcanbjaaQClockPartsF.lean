import Derived.Test.YteidggfjcanbjaaQClockPartsXD
import Derived.Test.YteidggfjcanbjaaQClockPartsN0
import Derived.Test.YteidggfjcanbjaaProg
import Derived.KernelRfl
namespace Go.Proofs.Yteidggfjcanbjaa.F
open Go Go.Proofs Go.Proofs.Yteidggfjcanbjaa.E
set_option linter.unusedVariables false
def tys : TypeId → TI := tyIf 3 (.int .i64) (tyIf 4 (.bool) (tyIf 5 (.int .u8) (tyIf 9 (.str) (tyIf 22 (.int .u32) (tyIf 23 (.slice 22 (.int .u32) 1 4) (tyIf 25 (.struct [(0, 1)] 1 [.t .nil ()]) (tyIf 27 (.struct [(0, 1), (1, 1)] 2 [.t .nil (), .t .nil ()]) (tyIf 31 (.int .u64) (tyIf 33 (.struct [(0, 1), (1, 1), (2, 1), (3, 1), (4, 1)] 5 [.t (.int .i64) 0, .t (.int .i64) 0, .t (.int .i64) 0, .t (.int .i64) 0, .t (.int .i64) 0]) (tyIf 37 (.int .i64) (tyIf 44 (.struct [(0, 1), (1, 1), (2, 1), (3, 1)] 4 [.t (.int .u32) 0, .t (.int .u64) 0, .t (.int .u64) 0, .t (.int .u8) 0]) (tyIf 54 (.plain) (tyIf 56 (.struct [(0, 1), (1, 1), (2, 1)] 3 [.t (.int .i64) 0, .t (.int .i64) 0, .t (.int .i64) 0]) (tyIf 99 (.plain) (fun _ => .unk)))))))))))))))
def eqs : TypeId → Option Ty := fun i => bif Nat.beq i 33 then some (.pair (.int .i64) (.pair (.int .i64) (.pair (.int .i64) (.pair (.int .i64) (.int .i64))))) else (none)
def globs : Nat → Option (IntKind × List Int) := fun i => none
/-! ### mbits_Len32 -/
noncomputable def mbits_Len32.Γ : Ctx := ⟨tys, fun f => none, globs, eqs⟩
def mbits_Len32.A : Live := fun i => none
noncomputable def mbits_Len32.f (a0 : Int) : M Int := evFn mbits_Len32.Γ mbits_Len32.A Try.f25 (.int .u32) (.int .i64) a0
noncomputable def mbits_Len32.ent : FnE := .plain (.int .u32) (.int .i64) false fun x => mbits_Len32.f x
theorem mbits_Len32.f_eq {a0 : Int} : mbits_Len32.f a0 =
    (if a0 ≥ 65536 then (if (a0.fdiv (2 ^ 16)) ≥ 256 then (if 0 ≤ (IntKind.u8.wrap ((a0.fdiv (2 ^ 16)).fdiv (2 ^ 8))) then (if (IntKind.u8.wrap ((a0.fdiv (2 ^ 16)).fdiv (2 ^ 8))) < ((⟨#[0, 1, 2, 2, 3, 3, 3, 3, 4, 4, 4, 4, 4, 4, 4, 4, 5, 5, 5, 5, 5, 5, 5, 5, 5, 5, 5, 5, 5, 5, 5, 5, 6, 6, 6, 6, 6, 6, 6, 6, 6, 6, 6, 6, 6, 6, 6, 6, 6, 6, 6, 6, 6, 6, 6, 6, 6, 6, 6, 6, 6, 6, 6, 6, 7, 7, 7, 7, 7, 7, 7, 7, 7, 7, 7, 7, 7, 7, 7, 7, 7, 7, 7, 7, 7, 7, 7, 7, 7, 7, 7, 7, 7, 7, 7, 7, 7, 7, 7, 7, 7, 7, 7, 7, 7, 7, 7, 7, 7, 7, 7, 7, 7, 7, 7, 7, 7, 7, 7, 7, 7, 7, 7, 7, 7, 7, 7, 7, 8, 8, 8, 8, 8, 8, 8, 8, 8, 8, 8, 8, 8, 8, 8, 8, 8, 8, 8, 8, 8, 8, 8, 8, 8, 8, 8, 8, 8, 8, 8, 8, 8, 8, 8, 8, 8, 8, 8, 8, 8, 8, 8, 8, 8, 8, 8, 8, 8, 8, 8, 8, 8, 8, 8, 8, 8, 8, 8, 8, 8, 8, 8, 8, 8, 8, 8, 8, 8, 8, 8, 8, 8, 8, 8, 8, 8, 8, 8, 8, 8, 8, 8, 8, 8, 8, 8, 8, 8, 8, 8, 8, 8, 8, 8, 8, 8, 8, 8, 8, 8, 8, 8, 8, 8, 8, 8, 8, 8, 8, 8, 8, 8, 8, 8, 8, 8, 8, 8, 8, 8, 8, 8, 8, 8, 8, 8, 8]⟩ : ByteArray).size : Int) then (M.ret (IntKind.i64.wrap ((IntKind.i64.wrap (16 + 8)) + (IntKind.i64.wrap (byteAt (⟨#[0, 1, 2, 2, 3, 3, 3, 3, 4, 4, 4, 4, 4, 4, 4, 4, 5, 5, 5, 5, 5, 5, 5, 5, 5, 5, 5, 5, 5, 5, 5, 5, 6, 6, 6, 6, 6, 6, 6, 6, 6, 6, 6, 6, 6, 6, 6, 6, 6, 6, 6, 6, 6, 6, 6, 6, 6, 6, 6, 6, 6, 6, 6, 6, 7, 7, 7, 7, 7, 7, 7, 7, 7, 7, 7, 7, 7, 7, 7, 7, 7, 7, 7, 7, 7, 7, 7, 7, 7, 7, 7, 7, 7, 7, 7, 7, 7, 7, 7, 7, 7, 7, 7, 7, 7, 7, 7, 7, 7, 7, 7, 7, 7, 7, 7, 7, 7, 7, 7, 7, 7, 7, 7, 7, 7, 7, 7, 7, 8, 8, 8, 8, 8, 8, 8, 8, 8, 8, 8, 8, 8, 8, 8, 8, 8, 8, 8, 8, 8, 8, 8, 8, 8, 8, 8, 8, 8, 8, 8, 8, 8, 8, 8, 8, 8, 8, 8, 8, 8, 8, 8, 8, 8, 8, 8, 8, 8, 8, 8, 8, 8, 8, 8, 8, 8, 8, 8, 8, 8, 8, 8, 8, 8, 8, 8, 8, 8, 8, 8, 8, 8, 8, 8, 8, 8, 8, 8, 8, 8, 8, 8, 8, 8, 8, 8, 8, 8, 8, 8, 8, 8, 8, 8, 8, 8, 8, 8, 8, 8, 8, 8, 8, 8, 8, 8, 8, 8, 8, 8, 8, 8, 8, 8, 8, 8, 8, 8, 8, 8, 8, 8, 8, 8, 8, 8, 8]⟩ : ByteArray) (IntKind.u8.wrap ((a0.fdiv (2 ^ 16)).fdiv (2 ^ 8)))))))) else M.none) else M.none) else (if 0 ≤ (IntKind.u8.wrap (a0.fdiv (2 ^ 16))) then (if (IntKind.u8.wrap (a0.fdiv (2 ^ 16))) < ((⟨#[0, 1, 2, 2, 3, 3, 3, 3, 4, 4, 4, 4, 4, 4, 4, 4, 5, 5, 5, 5, 5, 5, 5, 5, 5, 5, 5, 5, 5, 5, 5, 5, 6, 6, 6, 6, 6, 6, 6, 6, 6, 6, 6, 6, 6, 6, 6, 6, 6, 6, 6, 6, 6, 6, 6, 6, 6, 6, 6, 6, 6, 6, 6, 6, 7, 7, 7, 7, 7, 7, 7, 7, 7, 7, 7, 7, 7, 7, 7, 7, 7, 7, 7, 7, 7, 7, 7, 7, 7, 7, 7, 7, 7, 7, 7, 7, 7, 7, 7, 7, 7, 7, 7, 7, 7, 7, 7, 7, 7, 7, 7, 7, 7, 7, 7, 7, 7, 7, 7, 7, 7, 7, 7, 7, 7, 7, 7, 7, 8, 8, 8, 8, 8, 8, 8, 8, 8, 8, 8, 8, 8, 8, 8, 8, 8, 8, 8, 8, 8, 8, 8, 8, 8, 8, 8, 8, 8, 8, 8, 8, 8, 8, 8, 8, 8, 8, 8, 8, 8, 8, 8, 8, 8, 8, 8, 8, 8, 8, 8, 8, 8, 8, 8, 8, 8, 8, 8, 8, 8, 8, 8, 8, 8, 8, 8, 8, 8, 8, 8, 8, 8, 8, 8, 8, 8, 8, 8, 8, 8, 8, 8, 8, 8, 8, 8, 8, 8, 8, 8, 8, 8, 8, 8, 8, 8, 8, 8, 8, 8, 8, 8, 8, 8, 8, 8, 8, 8, 8, 8, 8, 8, 8, 8, 8, 8, 8, 8, 8, 8, 8, 8, 8, 8, 8, 8, 8]⟩ : ByteArray).size : Int) then (M.ret (IntKind.i64.wrap (16 + (IntKind.i64.wrap (byteAt (⟨#[0, 1, 2, 2, 3, 3, 3, 3, 4, 4, 4, 4, 4, 4, 4, 4, 5, 5, 5, 5, 5, 5, 5, 5, 5, 5, 5, 5, 5, 5, 5, 5, 6, 6, 6, 6, 6, 6, 6, 6, 6, 6, 6, 6, 6, 6, 6, 6, 6, 6, 6, 6, 6, 6, 6, 6, 6, 6, 6, 6, 6, 6, 6, 6, 7, 7, 7, 7, 7, 7, 7, 7, 7, 7, 7, 7, 7, 7, 7, 7, 7, 7, 7, 7, 7, 7, 7, 7, 7, 7, 7, 7, 7, 7, 7, 7, 7, 7, 7, 7, 7, 7, 7, 7, 7, 7, 7, 7, 7, 7, 7, 7, 7, 7, 7, 7, 7, 7, 7, 7, 7, 7, 7, 7, 7, 7, 7, 7, 8, 8, 8, 8, 8, 8, 8, 8, 8, 8, 8, 8, 8, 8, 8, 8, 8, 8, 8, 8, 8, 8, 8, 8, 8, 8, 8, 8, 8, 8, 8, 8, 8, 8, 8, 8, 8, 8, 8, 8, 8, 8, 8, 8, 8, 8, 8, 8, 8, 8, 8, 8, 8, 8, 8, 8, 8, 8, 8, 8, 8, 8, 8, 8, 8, 8, 8, 8, 8, 8, 8, 8, 8, 8, 8, 8, 8, 8, 8, 8, 8, 8, 8, 8, 8, 8, 8, 8, 8, 8, 8, 8, 8, 8, 8, 8, 8, 8, 8, 8, 8, 8, 8, 8, 8, 8, 8, 8, 8, 8, 8, 8, 8, 8, 8, 8, 8, 8, 8, 8, 8, 8, 8, 8, 8, 8, 8, 8]⟩ : ByteArray) (IntKind.u8.wrap (a0.fdiv (2 ^ 16)))))))) else M.none) else M.none)) else (if a0 ≥ 256 then (if 0 ≤ (IntKind.u8.wrap (a0.fdiv (2 ^ 8))) then (if (IntKind.u8.wrap (a0.fdiv (2 ^ 8))) < ((⟨#[0, 1, 2, 2, 3, 3, 3, 3, 4, 4, 4, 4, 4, 4, 4, 4, 5, 5, 5, 5, 5, 5, 5, 5, 5, 5, 5, 5, 5, 5, 5, 5, 6, 6, 6, 6, 6, 6, 6, 6, 6, 6, 6, 6, 6, 6, 6, 6, 6, 6, 6, 6, 6, 6, 6, 6, 6, 6, 6, 6, 6, 6, 6, 6, 7, 7, 7, 7, 7, 7, 7, 7, 7, 7, 7, 7, 7, 7, 7, 7, 7, 7, 7, 7, 7, 7, 7, 7, 7, 7, 7, 7, 7, 7, 7, 7, 7, 7, 7, 7, 7, 7, 7, 7, 7, 7, 7, 7, 7, 7, 7, 7, 7, 7, 7, 7, 7, 7, 7, 7, 7, 7, 7, 7, 7, 7, 7, 7, 8, 8, 8, 8, 8, 8, 8, 8, 8, 8, 8, 8, 8, 8, 8, 8, 8, 8, 8, 8, 8, 8, 8, 8, 8, 8, 8, 8, 8, 8, 8, 8, 8, 8, 8, 8, 8, 8, 8, 8, 8, 8, 8, 8, 8, 8, 8, 8, 8, 8, 8, 8, 8, 8, 8, 8, 8, 8, 8, 8, 8, 8, 8, 8, 8, 8, 8, 8, 8, 8, 8, 8, 8, 8, 8, 8, 8, 8, 8, 8, 8, 8, 8, 8, 8, 8, 8, 8, 8, 8, 8, 8, 8, 8, 8, 8, 8, 8, 8, 8, 8, 8, 8, 8, 8, 8, 8, 8, 8, 8, 8, 8, 8, 8, 8, 8, 8, 8, 8, 8, 8, 8, 8, 8, 8, 8, 8, 8]⟩ : ByteArray).size : Int) then (M.ret (IntKind.i64.wrap ((IntKind.i64.wrap (0 + 8)) + (IntKind.i64.wrap (byteAt (⟨#[0, 1, 2, 2, 3, 3, 3, 3, 4, 4, 4, 4, 4, 4, 4, 4, 5, 5, 5, 5, 5, 5, 5, 5, 5, 5, 5, 5, 5, 5, 5, 5, 6, 6, 6, 6, 6, 6, 6, 6, 6, 6, 6, 6, 6, 6, 6, 6, 6, 6, 6, 6, 6, 6, 6, 6, 6, 6, 6, 6, 6, 6, 6, 6, 7, 7, 7, 7, 7, 7, 7, 7, 7, 7, 7, 7, 7, 7, 7, 7, 7, 7, 7, 7, 7, 7, 7, 7, 7, 7, 7, 7, 7, 7, 7, 7, 7, 7, 7, 7, 7, 7, 7, 7, 7, 7, 7, 7, 7, 7, 7, 7, 7, 7, 7, 7, 7, 7, 7, 7, 7, 7, 7, 7, 7, 7, 7, 7, 8, 8, 8, 8, 8, 8, 8, 8, 8, 8, 8, 8, 8, 8, 8, 8, 8, 8, 8, 8, 8, 8, 8, 8, 8, 8, 8, 8, 8, 8, 8, 8, 8, 8, 8, 8, 8, 8, 8, 8, 8, 8, 8, 8, 8, 8, 8, 8, 8, 8, 8, 8, 8, 8, 8, 8, 8, 8, 8, 8, 8, 8, 8, 8, 8, 8, 8, 8, 8, 8, 8, 8, 8, 8, 8, 8, 8, 8, 8, 8, 8, 8, 8, 8, 8, 8, 8, 8, 8, 8, 8, 8, 8, 8, 8, 8, 8, 8, 8, 8, 8, 8, 8, 8, 8, 8, 8, 8, 8, 8, 8, 8, 8, 8, 8, 8, 8, 8, 8, 8, 8, 8, 8, 8, 8, 8, 8, 8]⟩ : ByteArray) (IntKind.u8.wrap (a0.fdiv (2 ^ 8)))))))) else M.none) else M.none) else (if 0 ≤ (IntKind.u8.wrap (a0)) then (if (IntKind.u8.wrap (a0)) < ((⟨#[0, 1, 2, 2, 3, 3, 3, 3, 4, 4, 4, 4, 4, 4, 4, 4, 5, 5, 5, 5, 5, 5, 5, 5, 5, 5, 5, 5, 5, 5, 5, 5, 6, 6, 6, 6, 6, 6, 6, 6, 6, 6, 6, 6, 6, 6, 6, 6, 6, 6, 6, 6, 6, 6, 6, 6, 6, 6, 6, 6, 6, 6, 6, 6, 7, 7, 7, 7, 7, 7, 7, 7, 7, 7, 7, 7, 7, 7, 7, 7, 7, 7, 7, 7, 7, 7, 7, 7, 7, 7, 7, 7, 7, 7, 7, 7, 7, 7, 7, 7, 7, 7, 7, 7, 7, 7, 7, 7, 7, 7, 7, 7, 7, 7, 7, 7, 7, 7, 7, 7, 7, 7, 7, 7, 7, 7, 7, 7, 8, 8, 8, 8, 8, 8, 8, 8, 8, 8, 8, 8, 8, 8, 8, 8, 8, 8, 8, 8, 8, 8, 8, 8, 8, 8, 8, 8, 8, 8, 8, 8, 8, 8, 8, 8, 8, 8, 8, 8, 8, 8, 8, 8, 8, 8, 8, 8, 8, 8, 8, 8, 8, 8, 8, 8, 8, 8, 8, 8, 8, 8, 8, 8, 8, 8, 8, 8, 8, 8, 8, 8, 8, 8, 8, 8, 8, 8, 8, 8, 8, 8, 8, 8, 8, 8, 8, 8, 8, 8, 8, 8, 8, 8, 8, 8, 8, 8, 8, 8, 8, 8, 8, 8, 8, 8, 8, 8, 8, 8, 8, 8, 8, 8, 8, 8, 8, 8, 8, 8, 8, 8, 8, 8, 8, 8, 8, 8]⟩ : ByteArray).size : Int) then (M.ret (IntKind.i64.wrap (0 + (IntKind.i64.wrap (byteAt (⟨#[0, 1, 2, 2, 3, 3, 3, 3, 4, 4, 4, 4, 4, 4, 4, 4, 5, 5, 5, 5, 5, 5, 5, 5, 5, 5, 5, 5, 5, 5, 5, 5, 6, 6, 6, 6, 6, 6, 6, 6, 6, 6, 6, 6, 6, 6, 6, 6, 6, 6, 6, 6, 6, 6, 6, 6, 6, 6, 6, 6, 6, 6, 6, 6, 7, 7, 7, 7, 7, 7, 7, 7, 7, 7, 7, 7, 7, 7, 7, 7, 7, 7, 7, 7, 7, 7, 7, 7, 7, 7, 7, 7, 7, 7, 7, 7, 7, 7, 7, 7, 7, 7, 7, 7, 7, 7, 7, 7, 7, 7, 7, 7, 7, 7, 7, 7, 7, 7, 7, 7, 7, 7, 7, 7, 7, 7, 7, 7, 8, 8, 8, 8, 8, 8, 8, 8, 8, 8, 8, 8, 8, 8, 8, 8, 8, 8, 8, 8, 8, 8, 8, 8, 8, 8, 8, 8, 8, 8, 8, 8, 8, 8, 8, 8, 8, 8, 8, 8, 8, 8, 8, 8, 8, 8, 8, 8, 8, 8, 8, 8, 8, 8, 8, 8, 8, 8, 8, 8, 8, 8, 8, 8, 8, 8, 8, 8, 8, 8, 8, 8, 8, 8, 8, 8, 8, 8, 8, 8, 8, 8, 8, 8, 8, 8, 8, 8, 8, 8, 8, 8, 8, 8, 8, 8, 8, 8, 8, 8, 8, 8, 8, 8, 8, 8, 8, 8, 8, 8, 8, 8, 8, 8, 8, 8, 8, 8, 8, 8, 8, 8, 8, 8, 8, 8, 8, 8]⟩ : ByteArray) (IntKind.u8.wrap (a0))))))) else M.none) else M.none))) := by kernel_rfl
/-! ### nat_Nat_Bits -/
noncomputable def nat_Nat_Bits.Γ : Ctx := ⟨tys, fun f => bif Nat.beq f 25 then some mbits_Len32.ent else (none), globs, eqs⟩
def nat_Nat_Bits.A : Live := fun i => none
noncomputable def nat_Nat_Bits.f (a0 : List Int) : M Int := evFn nat_Nat_Bits.Γ nat_Nat_Bits.A Try.f15 (.agg (.lst (.int .u32))) (.int .i64) a0
noncomputable def nat_Nat_Bits.ent : FnE := .plain (.agg (.lst (.int .u32))) (.int .i64) false fun x => nat_Nat_Bits.f x
theorem nat_Nat_Bits.f_eq {a0 : List Int} : nat_Nat_Bits.f a0 =
    (if (a0.length : Int) = 0 then (M.ret 0) else (if 0 ≤ (IntKind.i64.wrap ((a0.length : Int) - 1)) then (if (IntKind.i64.wrap ((a0.length : Int) - 1)) < (a0.length : Int) then (M.bind (mbits_Len32.f (rdI a0 (IntKind.i64.wrap ((a0.length : Int) - 1)))) fun t1 => (M.ret (IntKind.i64.wrap ((IntKind.i64.wrap (32 * (IntKind.i64.wrap ((a0.length : Int) - 1)))) + t1)))) else M.none) else M.none)) := by kernel_rfl
/-! ### slices_Clone_uint32_uint32 -/
noncomputable def slices_Clone_uint32_uint32.Γ : Ctx := ⟨tys, fun f => none, globs, eqs⟩
def slices_Clone_uint32_uint32.A : Live := fun i => none
noncomputable def slices_Clone_uint32_uint32.f (a0 : List Int) : M (List Int) := evFn slices_Clone_uint32_uint32.Γ slices_Clone_uint32_uint32.A Try.f28 (.lst (.int .u32)) (.lst (.int .u32)) a0
noncomputable def slices_Clone_uint32_uint32.ent : FnE := .plain (.lst (.int .u32)) (.lst (.int .u32)) false fun x => slices_Clone_uint32_uint32.f x
theorem slices_Clone_uint32_uint32.f_eq {a0 : List Int} : slices_Clone_uint32_uint32.f a0 =
    (M.nq (a0 = []) (M.ret ([] : List Int)) (if ([] : List Int).length + a0.length ≤ 1099511627776 then (M.ret (([] : List Int) ++ a0)) else M.none)) := by kernel_rfl
/-! ### nat_Made -/
noncomputable def nat_Made.Γ : Ctx := ⟨tys, fun f => bif Nat.beq f 28 then some slices_Clone_uint32_uint32.ent else (none), globs, eqs⟩
def nat_Made.l0.live : List (Nat × LK) := [(0, .val (.lst (.int .u32))), (2, .box [(.lst (.int .u32))]), (3, .val (.int .i64))]
def nat_Made.A : Live := fun i => bif Nat.beq i 4 then some nat_Made.l0.live else (none)
noncomputable def nat_Made.f (a0 : List Int) : M (List Int) := evFn nat_Made.Γ nat_Made.A Try.f17 (.lst (.int .u32)) (.agg (.lst (.int .u32))) a0
noncomputable def nat_Made.ent : FnE := .plain (.lst (.int .u32)) (.agg (.lst (.int .u32))) false fun x => nat_Made.f x
noncomputable def nat_Made.l0.c : Code × Kont (List Int) := focus nat_Made.Γ nat_Made.A (bodyOf Try.f17) (finQ nat_Made.Γ Try.f17.results.toList (.agg (.lst (.int .u32)))) [.r, .r, .l, .l]
noncomputable def nat_Made.l0 (x0 : List Int) (x2 : List Int) (x3 : Int) : M (List Int) := loopOf nat_Made.Γ nat_Made.A nat_Made.l0.live nat_Made.l0.c (x0, x2, x3)
theorem nat_Made.l0_eq {x0 : List Int} {x2 : List Int} {x3 : Int} :
    roundOf nat_Made.Γ nat_Made.A nat_Made.l0.live nat_Made.l0.c (loopOf nat_Made.Γ nat_Made.A nat_Made.l0.live nat_Made.l0.c) (x0, x2, x3) =
    (if x3 > 0 then (if 0 ≤ (IntKind.i64.wrap (x3 - 1)) then (if (IntKind.i64.wrap (x3 - 1)) < (x0.length : Int) then (if (rdI x0 (IntKind.i64.wrap (x3 - 1))) = 0 then (nat_Made.l0 x0 x2 (IntKind.i64.wrap (x3 - 1))) else (if 0 ≤ x3 then (if x3 ≤ (x0.length : Int) then (M.bind (slices_Clone_uint32_uint32.f (x0.take x3.toNat)) fun t1 => (M.ret t1)) else M.none) else M.none)) else M.none) else M.none) else (if 0 ≤ x3 then (if x3 ≤ (x0.length : Int) then (M.bind (slices_Clone_uint32_uint32.f (x0.take x3.toNat)) fun t2 => (M.ret t2)) else M.none) else M.none)) := by kernel_rfl
theorem nat_Made.f_eq {a0 : List Int} : nat_Made.f a0 =
    (nat_Made.l0 a0 ([] : List Int) (a0.length : Int)) := by kernel_rfl
/-! ### nat_Of -/
noncomputable def nat_Of.Γ : Ctx := ⟨tys, fun f => bif Nat.beq f 17 then some nat_Made.ent else (none), globs, eqs⟩
def nat_Of.A : Live := fun i => none
noncomputable def nat_Of.f (a0 : Int) : M (List Int) := evFn nat_Of.Γ nat_Of.A Try.f7 (.int .u64) (.agg (.lst (.int .u32))) a0
noncomputable def nat_Of.ent : FnE := .plain (.int .u64) (.agg (.lst (.int .u32))) false fun x => nat_Of.f x
theorem nat_Of.f_eq {a0 : Int} : nat_Of.f a0 =
    (M.bind (nat_Made.f ([IntKind.u32.wrap (a0), IntKind.u32.wrap (a0.fdiv (2 ^ 32))] : List Int)) fun t1 => (M.ret t1)) := by kernel_rfl
/-! ### nat_Nat_Limbs -/
noncomputable def nat_Nat_Limbs.Γ : Ctx := ⟨tys, fun f => bif Nat.beq f 28 then some slices_Clone_uint32_uint32.ent else (none), globs, eqs⟩
def nat_Nat_Limbs.A : Live := fun i => none
noncomputable def nat_Nat_Limbs.f (a0 : List Int) : M (List Int) := evFn nat_Nat_Limbs.Γ nat_Nat_Limbs.A Try.f45 (.agg (.lst (.int .u32))) (.lst (.int .u32)) a0
noncomputable def nat_Nat_Limbs.ent : FnE := .plain (.agg (.lst (.int .u32))) (.lst (.int .u32)) false fun x => nat_Nat_Limbs.f x
theorem nat_Nat_Limbs.f_eq {a0 : List Int} : nat_Nat_Limbs.f a0 =
    (M.bind (slices_Clone_uint32_uint32.f a0) fun t1 => (M.ret t1)) := by kernel_rfl
/-! ### mbits_Div32 -/
noncomputable def mbits_Div32.Γ : Ctx := ⟨tys, fun f => none, globs, eqs⟩
def mbits_Div32.A : Live := fun i => none
noncomputable def mbits_Div32.f (a0 : Int) (a1 : Int) (a2 : Int) : M (Int × Int) := evFn mbits_Div32.Γ mbits_Div32.A Try.f54 (.pair (.int .u32) (.pair (.int .u32) (.int .u32))) (.pair (.int .u32) (.int .u32)) (a0, a1, a2)
noncomputable def mbits_Div32.ent : FnE := .plain (.pair (.int .u32) (.pair (.int .u32) (.int .u32))) (.pair (.int .u32) (.int .u32)) true fun x => mbits_Div32.f x.1 x.2.1 x.2.2
theorem mbits_Div32.f_eq {a0 : Int} {a1 : Int} {a2 : Int} : mbits_Div32.f a0 a1 a2 =
    (if a2 ≠ 0 then (if a2 ≤ a0 then M.none else (if IntKind.u64.wrap (a2) ≠ 0 then (if IntKind.u64.wrap (a2) ≠ 0 then (M.ret (IntKind.u32.wrap (IntKind.u64.wrap ((IntKind.u64.wrap ((BitVec.ofInt IntKind.u64.bits (IntKind.u64.wrap ((IntKind.u64.wrap (a0)) * 2 ^ 32)) ||| BitVec.ofInt IntKind.u64.bits (IntKind.u64.wrap (a1))).toNat)).tdiv (IntKind.u64.wrap (a2)))), IntKind.u32.wrap ((IntKind.u64.wrap ((BitVec.ofInt IntKind.u64.bits (IntKind.u64.wrap ((IntKind.u64.wrap (a0)) * 2 ^ 32)) ||| BitVec.ofInt IntKind.u64.bits (IntKind.u64.wrap (a1))).toNat)).tmod (IntKind.u64.wrap (a2))))) else M.none) else M.none)) else (if IntKind.u64.wrap (a2) ≠ 0 then (if IntKind.u64.wrap (a2) ≠ 0 then (M.ret (IntKind.u32.wrap (IntKind.u64.wrap ((IntKind.u64.wrap ((BitVec.ofInt IntKind.u64.bits (IntKind.u64.wrap ((IntKind.u64.wrap (a0)) * 2 ^ 32)) ||| BitVec.ofInt IntKind.u64.bits (IntKind.u64.wrap (a1))).toNat)).tdiv (IntKind.u64.wrap (a2)))), IntKind.u32.wrap ((IntKind.u64.wrap ((BitVec.ofInt IntKind.u64.bits (IntKind.u64.wrap ((IntKind.u64.wrap (a0)) * 2 ^ 32)) ||| BitVec.ofInt IntKind.u64.bits (IntKind.u64.wrap (a1))).toNat)).tmod (IntKind.u64.wrap (a2))))) else M.none) else M.none)) := by kernel_rfl
/-! ### quot_small -/
noncomputable def quot_small.Γ : Ctx := ⟨tys, fun f => bif Nat.beq f 54 then some mbits_Div32.ent else (none), globs, eqs⟩
def quot_small.l0.live : List (Nat × LK) := [(0, .val (.lst (.int .u32))), (1, .val (.int .u32)), (6, .own true (.int .u32)), (7, .val (.int .u32)), (8, .val (.int .i64))]
def quot_small.A : Live := fun i => bif Nat.beq i 8 then some quot_small.l0.live else (none)
noncomputable def quot_small.f (a0 : List Int) (a1 : Int) : M ((List Int) × Int) := evFn quot_small.Γ quot_small.A Try.f46 (.pair (.lst (.int .u32)) (.int .u32)) (.pair (.lst (.int .u32)) (.int .u32)) (a0, a1)
noncomputable def quot_small.ent : FnE := .plain (.pair (.lst (.int .u32)) (.int .u32)) (.pair (.lst (.int .u32)) (.int .u32)) true fun x => quot_small.f x.1 x.2
noncomputable def quot_small.l0.c : Code × Kont ((List Int) × Int) := focus quot_small.Γ quot_small.A (bodyOf Try.f46) (finQ quot_small.Γ Try.f46.results.toList (.pair (.lst (.int .u32)) (.int .u32))) [.r, .r, .r, .l, .r, .l]
noncomputable def quot_small.l0 (x0 : List Int) (x1 : Int) (x6 : List Int) (x7 : Int) (x8 : Int) : M ((List Int) × Int) := loopOf quot_small.Γ quot_small.A quot_small.l0.live quot_small.l0.c (x0, x1, x6, x7, x8)
theorem quot_small.l0_eq {x0 : List Int} {x1 : Int} {x6 : List Int} {x7 : Int} {x8 : Int} :
    roundOf quot_small.Γ quot_small.A quot_small.l0.live quot_small.l0.c (loopOf quot_small.Γ quot_small.A quot_small.l0.live quot_small.l0.c) (x0, x1, x6, x7, x8) =
    (if x8 ≥ 0 then (if 0 ≤ x8 then (if x8 < (x0.length : Int) then (M.bind (mbits_Div32.f x7 (rdI x0 x8) x1) fun t1 => (if 0 ≤ x8 then (if x8 < (x6.length : Int) then (quot_small.l0 x0 x1 (x6.set x8.toNat t1.1) t1.2 (IntKind.i64.wrap (x8 - 1))) else M.none) else M.none)) else M.none) else M.none) else (M.ret (x6, x7))) := by kernel_rfl
theorem quot_small.f_eq {a0 : List Int} {a1 : Int} : quot_small.f a0 a1 =
    (if 0 ≤ (a0.length : Int) then (if (a0.length : Int) ≤ 1099511627776 then (quot_small.l0 a0 a1 (List.replicate (a0.length : Int).toNat (0 : Int)) 0 (IntKind.i64.wrap ((a0.length : Int) - 1))) else M.none) else M.none) := by kernel_rfl
/-! ### mbits_LeadingZeros32 -/
noncomputable def mbits_LeadingZeros32.Γ : Ctx := ⟨tys, fun f => bif Nat.beq f 25 then some mbits_Len32.ent else (none), globs, eqs⟩
def mbits_LeadingZeros32.A : Live := fun i => none
noncomputable def mbits_LeadingZeros32.f (a0 : Int) : M Int := evFn mbits_LeadingZeros32.Γ mbits_LeadingZeros32.A Try.f55 (.int .u32) (.int .i64) a0
noncomputable def mbits_LeadingZeros32.ent : FnE := .plain (.int .u32) (.int .i64) false fun x => mbits_LeadingZeros32.f x
theorem mbits_LeadingZeros32.f_eq {a0 : Int} : mbits_LeadingZeros32.f a0 =
    (M.bind (mbits_Len32.f a0) fun t1 => (M.ret (IntKind.i64.wrap (32 - t1)))) := by kernel_rfl
/-! ### quot_shifted -/
noncomputable def quot_shifted.Γ : Ctx := ⟨tys, fun f => none, globs, eqs⟩
def quot_shifted.l0.live : List (Nat × LK) := [(1, .val (.int .i64)), (5, .own true (.int .u32)), (12, .val (.lst (.int .u32))), (13, .val (.int .i64)), (14, .val (.int .i64))]
def quot_shifted.A : Live := fun i => bif Nat.beq i 6 then some quot_shifted.l0.live else (none)
noncomputable def quot_shifted.f (a0 : List Int) (a1 : Int) : M (List Int) := evFnOwn quot_shifted.Γ quot_shifted.A Try.f56 (.pair (.lst (.int .u32)) (.int .i64)) (.int .u32) (a0, a1)
noncomputable def quot_shifted.ent : FnE := .own (.pair (.lst (.int .u32)) (.int .i64)) (.int .u32) fun x => quot_shifted.f x.1 x.2
noncomputable def quot_shifted.l0.c : Code × Kont (List Int) := focus quot_shifted.Γ quot_shifted.A (bodyOf Try.f56) (finOwn Try.f56.results.toList (.int .u32)) [.r, .r, .l, .r, .l]
noncomputable def quot_shifted.l0 (x1 : Int) (x5 : List Int) (x12 : List Int) (x13 : Int) (x14 : Int) : M (List Int) := loopOf quot_shifted.Γ quot_shifted.A quot_shifted.l0.live quot_shifted.l0.c (x1, x5, x12, x13, x14)
theorem quot_shifted.l0_eq {x1 : Int} {x5 : List Int} {x12 : List Int} {x13 : Int} {x14 : Int} :
    roundOf quot_shifted.Γ quot_shifted.A quot_shifted.l0.live quot_shifted.l0.c (loopOf quot_shifted.Γ quot_shifted.A quot_shifted.l0.live quot_shifted.l0.c) (x1, x5, x12, x13, x14) =
    (if x14 < x13 then (if 0 ≤ x14 then (if x14 < (x12.length : Int) then (if 0 ≤ x14 then (if x14 < (x5.length : Int) then (if 0 ≤ x1 then (if 0 ≤ x14 then (if x14 < (x5.length : Int) then (if 0 ≤ x1 then (if 0 ≤ (IntKind.i64.wrap (x14 + 1)) then (if (IntKind.i64.wrap (x14 + 1)) < ((x5.set x14.toNat (IntKind.u32.wrap ((BitVec.ofInt IntKind.u32.bits (x5.getD x14.toNat 0) ||| BitVec.ofInt IntKind.u32.bits (IntKind.u32.wrap ((rdI x12 x14) * 2 ^ (min x1.toNat 32)))).toNat))).length : Int) then (quot_shifted.l0 x1 ((x5.set x14.toNat (IntKind.u32.wrap ((BitVec.ofInt IntKind.u32.bits (x5.getD x14.toNat 0) ||| BitVec.ofInt IntKind.u32.bits (IntKind.u32.wrap ((rdI x12 x14) * 2 ^ (min x1.toNat 32)))).toNat))).set ((IntKind.i64.wrap (x14 + 1)).toNat) (IntKind.u32.wrap ((IntKind.u64.wrap ((IntKind.u64.wrap (rdI x12 x14)) * 2 ^ (min x1.toNat 64))).fdiv (2 ^ 32)))) x12 x13 (IntKind.i64.wrap (x14 + 1))) else M.none) else M.none) else M.none) else M.none) else M.none) else M.none) else M.none) else M.none) else M.none) else M.none) else (M.ret x5)) := by kernel_rfl
theorem quot_shifted.f_eq {a0 : List Int} {a1 : Int} : quot_shifted.f a0 a1 =
    (if 0 ≤ (IntKind.i64.wrap ((a0.length : Int) + 1)) then (if (IntKind.i64.wrap ((a0.length : Int) + 1)) ≤ 1099511627776 then (quot_shifted.l0 a1 (List.replicate (IntKind.i64.wrap ((a0.length : Int) + 1)).toNat (0 : Int)) a0 (a0.length : Int) 0) else M.none) else M.none) := by kernel_rfl
/-! ### quot_guess -/
noncomputable def quot_guess.Γ : Ctx := ⟨tys, fun f => none, globs, eqs⟩
def quot_guess.l0.live : List (Nat × LK) := [(0, .val (.lst (.int .u32))), (1, .val (.lst (.int .u32))), (5, .val (.int .i64)), (7, .val (.int .u64)), (8, .val (.int .u64))]
def quot_guess.A : Live := fun i => bif Nat.beq i 8 then some quot_guess.l0.live else (none)
noncomputable def quot_guess.f (a0 : List Int) (a1 : List Int) : M Int := evFn quot_guess.Γ quot_guess.A Try.f57 (.pair (.lst (.int .u32)) (.lst (.int .u32))) (.int .u64) (a0, a1)
noncomputable def quot_guess.ent : FnE := .plain (.pair (.lst (.int .u32)) (.lst (.int .u32))) (.int .u64) false fun x => quot_guess.f x.1 x.2
noncomputable def quot_guess.l0.c : Code × Kont Int := focus quot_guess.Γ quot_guess.A (bodyOf Try.f57) (finQ quot_guess.Γ Try.f57.results.toList (.int .u64)) [.r, .r, .r, .r, .l, .l]
noncomputable def quot_guess.l0 (x0 : List Int) (x1 : List Int) (x5 : Int) (x7 : Int) (x8 : Int) : M Int := loopOf quot_guess.Γ quot_guess.A quot_guess.l0.live quot_guess.l0.c (x0, x1, x5, x7, x8)
theorem quot_guess.l0_eq {x0 : List Int} {x1 : List Int} {x5 : Int} {x7 : Int} {x8 : Int} :
    roundOf quot_guess.Γ quot_guess.A quot_guess.l0.live quot_guess.l0.c (loopOf quot_guess.Γ quot_guess.A quot_guess.l0.live quot_guess.l0.c) (x0, x1, x5, x7, x8) =
    (if x7 ≥ 4294967296 then (if 0 ≤ (IntKind.i64.wrap (x5 - 1)) then (if (IntKind.i64.wrap (x5 - 1)) < (x1.length : Int) then (if (IntKind.u64.wrap (x8 + (IntKind.u64.wrap (rdI x1 (IntKind.i64.wrap (x5 - 1)))))) ≥ 4294967296 then (M.ret (IntKind.u64.wrap (x7 - 1))) else (quot_guess.l0 x0 x1 x5 (IntKind.u64.wrap (x7 - 1)) (IntKind.u64.wrap (x8 + (IntKind.u64.wrap (rdI x1 (IntKind.i64.wrap (x5 - 1)))))))) else M.none) else M.none) else (if 0 ≤ (IntKind.i64.wrap (x5 - 2)) then (if (IntKind.i64.wrap (x5 - 2)) < (x1.length : Int) then (if 0 ≤ (IntKind.i64.wrap (x5 - 2)) then (if (IntKind.i64.wrap (x5 - 2)) < (x0.length : Int) then (if (IntKind.u64.wrap (x7 * (IntKind.u64.wrap (rdI x1 (IntKind.i64.wrap (x5 - 2)))))) > (IntKind.u64.wrap ((BitVec.ofInt IntKind.u64.bits (IntKind.u64.wrap (x8 * 2 ^ 32)) ||| BitVec.ofInt IntKind.u64.bits (IntKind.u64.wrap (rdI x0 (IntKind.i64.wrap (x5 - 2))))).toNat)) then (if 0 ≤ (IntKind.i64.wrap (x5 - 1)) then (if (IntKind.i64.wrap (x5 - 1)) < (x1.length : Int) then (if (IntKind.u64.wrap (x8 + (IntKind.u64.wrap (rdI x1 (IntKind.i64.wrap (x5 - 1)))))) ≥ 4294967296 then (M.ret (IntKind.u64.wrap (x7 - 1))) else (quot_guess.l0 x0 x1 x5 (IntKind.u64.wrap (x7 - 1)) (IntKind.u64.wrap (x8 + (IntKind.u64.wrap (rdI x1 (IntKind.i64.wrap (x5 - 1)))))))) else M.none) else M.none) else (M.ret x7)) else M.none) else M.none) else M.none) else M.none)) := by kernel_rfl
theorem quot_guess.f_eq {a0 : List Int} {a1 : List Int} : quot_guess.f a0 a1 =
    (if 0 ≤ (a1.length : Int) then (if (a1.length : Int) < (a0.length : Int) then (if 0 ≤ (IntKind.i64.wrap ((a1.length : Int) - 1)) then (if (IntKind.i64.wrap ((a1.length : Int) - 1)) < (a0.length : Int) then (if 0 ≤ (IntKind.i64.wrap ((a1.length : Int) - 1)) then (if (IntKind.i64.wrap ((a1.length : Int) - 1)) < (a1.length : Int) then (if IntKind.u64.wrap (rdI a1 (IntKind.i64.wrap ((a1.length : Int) - 1))) ≠ 0 then (if 0 ≤ (IntKind.i64.wrap ((a1.length : Int) - 1)) then (if (IntKind.i64.wrap ((a1.length : Int) - 1)) < (a1.length : Int) then (if IntKind.u64.wrap (rdI a1 (IntKind.i64.wrap ((a1.length : Int) - 1))) ≠ 0 then (quot_guess.l0 a0 a1 (a1.length : Int) (IntKind.u64.wrap ((IntKind.u64.wrap ((BitVec.ofInt IntKind.u64.bits (IntKind.u64.wrap ((IntKind.u64.wrap (rdI a0 (a1.length : Int))) * 2 ^ 32)) ||| BitVec.ofInt IntKind.u64.bits (IntKind.u64.wrap (rdI a0 (IntKind.i64.wrap ((a1.length : Int) - 1))))).toNat)).tdiv (IntKind.u64.wrap (rdI a1 (IntKind.i64.wrap ((a1.length : Int) - 1)))))) ((IntKind.u64.wrap ((BitVec.ofInt IntKind.u64.bits (IntKind.u64.wrap ((IntKind.u64.wrap (rdI a0 (a1.length : Int))) * 2 ^ 32)) ||| BitVec.ofInt IntKind.u64.bits (IntKind.u64.wrap (rdI a0 (IntKind.i64.wrap ((a1.length : Int) - 1))))).toNat)).tmod (IntKind.u64.wrap (rdI a1 (IntKind.i64.wrap ((a1.length : Int) - 1)))))) else M.none) else M.none) else M.none) else M.none) else M.none) else M.none) else M.none) else M.none) else M.none) else M.none) := by kernel_rfl
/-! ### mbits_Sub32 -/
noncomputable def mbits_Sub32.Γ : Ctx := ⟨tys, fun f => none, globs, eqs⟩
def mbits_Sub32.A : Live := fun i => none
noncomputable def mbits_Sub32.f (a0 : Int) (a1 : Int) (a2 : Int) : M (Int × Int) := evFn mbits_Sub32.Γ mbits_Sub32.A Try.f44 (.pair (.int .u32) (.pair (.int .u32) (.int .u32))) (.pair (.int .u32) (.int .u32)) (a0, a1, a2)
noncomputable def mbits_Sub32.ent : FnE := .plain (.pair (.int .u32) (.pair (.int .u32) (.int .u32))) (.pair (.int .u32) (.int .u32)) true fun x => mbits_Sub32.f x.1 x.2.1 x.2.2
theorem mbits_Sub32.f_eq {a0 : Int} {a1 : Int} {a2 : Int} : mbits_Sub32.f a0 a1 a2 =
    (M.ret (IntKind.u32.wrap ((IntKind.u32.wrap (a0 - a1)) - a2), (IntKind.u32.wrap ((BitVec.ofInt IntKind.u32.bits (IntKind.u32.wrap ((BitVec.ofInt IntKind.u32.bits (IntKind.u32.wrap ((BitVec.ofInt IntKind.u32.bits (4294967295) ^^^ BitVec.ofInt IntKind.u32.bits a0).toNat)) &&& BitVec.ofInt IntKind.u32.bits a1).toNat)) ||| BitVec.ofInt IntKind.u32.bits (IntKind.u32.wrap ((BitVec.ofInt IntKind.u32.bits (IntKind.u32.wrap ((BitVec.ofInt IntKind.u32.bits (4294967295) ^^^ BitVec.ofInt IntKind.u32.bits (IntKind.u32.wrap ((BitVec.ofInt IntKind.u32.bits a0 ^^^ BitVec.ofInt IntKind.u32.bits a1).toNat))).toNat)) &&& BitVec.ofInt IntKind.u32.bits (IntKind.u32.wrap ((IntKind.u32.wrap (a0 - a1)) - a2))).toNat))).toNat)).fdiv (2 ^ 31))) := by kernel_rfl
/-! ### quot_less -/
noncomputable def quot_less.Γ : Ctx := ⟨tys, fun f => bif Nat.beq f 44 then some mbits_Sub32.ent else (none), globs, eqs⟩
def quot_less.l0.live : List (Nat × LK) := [(0, .own false (.int .u32)), (1, .val (.lst (.int .u32))), (2, .val (.int .u64)), (7, .val (.int .u64)), (8, .val (.int .u32)), (11, .val (.lst (.int .u32))), (12, .val (.int .i64)), (13, .val (.int .i64))]
def quot_less.A : Live := fun i => bif Nat.beq i 6 then some quot_less.l0.live else (none)
noncomputable def quot_less.f (a0 : List Int) (a1 : List Int) (a2 : Int) : M (Bool × List Int) := evFnRow quot_less.Γ quot_less.A Try.f58 (.int .u32) (.pair (.lst (.int .u32)) (.int .u64)) .bool a0 (a1, a2)
noncomputable def quot_less.ent : FnE := .ioRow (.int .u32) (.pair (.lst (.int .u32)) (.int .u64)) .bool fun l x => quot_less.f l x.1 x.2
noncomputable def quot_less.l0.c : Code × Kont (Bool × List Int) := focus quot_less.Γ quot_less.A (bodyOf Try.f58) (finRow quot_less.Γ Try.f58.results.toList (.int .u32) .bool) [.r, .r, .l, .r, .l]
noncomputable def quot_less.l0 (x0 : List Int) (x1 : List Int) (x2 : Int) (x7 : Int) (x8 : Int) (x11 : List Int) (x12 : Int) (x13 : Int) : M (Bool × List Int) := loopOf quot_less.Γ quot_less.A quot_less.l0.live quot_less.l0.c (x0, x1, x2, x7, x8, x11, x12, x13)
theorem quot_less.l0_eq {x0 : List Int} {x1 : List Int} {x2 : Int} {x7 : Int} {x8 : Int} {x11 : List Int} {x12 : Int} {x13 : Int} :
    roundOf quot_less.Γ quot_less.A quot_less.l0.live quot_less.l0.c (loopOf quot_less.Γ quot_less.A quot_less.l0.live quot_less.l0.c) (x0, x1, x2, x7, x8, x11, x12, x13) =
    (if x13 < x12 then (if 0 ≤ x13 then (if x13 < (x11.length : Int) then (if 0 ≤ x13 then (if x13 < (x0.length : Int) then (M.bind (mbits_Sub32.f (x0.getD x13.toNat 0) (IntKind.u32.wrap (IntKind.u64.wrap (x7 + (IntKind.u64.wrap (x2 * (IntKind.u64.wrap (rdI x11 x13))))))) x8) fun t1 => (if 0 ≤ x13 then (if x13 < (x0.length : Int) then (quot_less.l0 (x0.set x13.toNat t1.1) x1 x2 ((IntKind.u64.wrap (x7 + (IntKind.u64.wrap (x2 * (IntKind.u64.wrap (rdI x11 x13)))))).fdiv (2 ^ 32)) t1.2 x11 x12 (IntKind.i64.wrap (x13 + 1))) else M.none) else M.none)) else M.none) else M.none) else M.none) else M.none) else (if 0 ≤ (x1.length : Int) then (if (x1.length : Int) < (x0.length : Int) then (M.bind (mbits_Sub32.f (x0.getD ((x1.length : Int).toNat) 0) (IntKind.u32.wrap (x7)) x8) fun t2 => (if 0 ≤ (x1.length : Int) then (if (x1.length : Int) < (x0.length : Int) then (M.ret (decide (t2.2 = 1), x0.set ((x1.length : Int).toNat) t2.1)) else M.none) else M.none)) else M.none) else M.none)) := by kernel_rfl
theorem quot_less.f_eq {a0 : List Int} {a1 : List Int} {a2 : Int} : quot_less.f a0 a1 a2 =
    (quot_less.l0 a0 a1 a2 0 0 a1 (a1.length : Int) 0) := by kernel_rfl
/-! ### mbits_Add32 -/
noncomputable def mbits_Add32.Γ : Ctx := ⟨tys, fun f => none, globs, eqs⟩
def mbits_Add32.A : Live := fun i => none
noncomputable def mbits_Add32.f (a0 : Int) (a1 : Int) (a2 : Int) : M (Int × Int) := evFn mbits_Add32.Γ mbits_Add32.A Try.f40 (.pair (.int .u32) (.pair (.int .u32) (.int .u32))) (.pair (.int .u32) (.int .u32)) (a0, a1, a2)
noncomputable def mbits_Add32.ent : FnE := .plain (.pair (.int .u32) (.pair (.int .u32) (.int .u32))) (.pair (.int .u32) (.int .u32)) true fun x => mbits_Add32.f x.1 x.2.1 x.2.2
theorem mbits_Add32.f_eq {a0 : Int} {a1 : Int} {a2 : Int} : mbits_Add32.f a0 a1 a2 =
    (M.ret (IntKind.u32.wrap (IntKind.u64.wrap ((IntKind.u64.wrap ((IntKind.u64.wrap (a0)) + (IntKind.u64.wrap (a1)))) + (IntKind.u64.wrap (a2)))), IntKind.u32.wrap ((IntKind.u64.wrap ((IntKind.u64.wrap ((IntKind.u64.wrap (a0)) + (IntKind.u64.wrap (a1)))) + (IntKind.u64.wrap (a2)))).fdiv (2 ^ 32)))) := by kernel_rfl
/-! ### quot_more -/
noncomputable def quot_more.Γ : Ctx := ⟨tys, fun f => bif Nat.beq f 40 then some mbits_Add32.ent else (none), globs, eqs⟩
def quot_more.l0.live : List (Nat × LK) := [(0, .own false (.int .u32)), (1, .val (.lst (.int .u32))), (4, .val (.int .u32)), (7, .val (.lst (.int .u32))), (8, .val (.int .i64)), (9, .val (.int .i64))]
def quot_more.A : Live := fun i => bif Nat.beq i 4 then some quot_more.l0.live else (none)
noncomputable def quot_more.f (a0 : List Int) (a1 : List Int) : M (Unit × List Int) := evFnRow quot_more.Γ quot_more.A Try.f59 (.int .u32) (.lst (.int .u32)) .nil a0 a1
noncomputable def quot_more.ent : FnE := .ioRow (.int .u32) (.lst (.int .u32)) .nil fun l x => quot_more.f l x
noncomputable def quot_more.l0.c : Code × Kont (Unit × List Int) := focus quot_more.Γ quot_more.A (bodyOf Try.f59) (finRow quot_more.Γ Try.f59.results.toList (.int .u32) .nil) [.r, .l, .r, .l]
noncomputable def quot_more.l0 (x0 : List Int) (x1 : List Int) (x4 : Int) (x7 : List Int) (x8 : Int) (x9 : Int) : M (Unit × List Int) := loopOf quot_more.Γ quot_more.A quot_more.l0.live quot_more.l0.c (x0, x1, x4, x7, x8, x9)
theorem quot_more.l0_eq {x0 : List Int} {x1 : List Int} {x4 : Int} {x7 : List Int} {x8 : Int} {x9 : Int} :
    roundOf quot_more.Γ quot_more.A quot_more.l0.live quot_more.l0.c (loopOf quot_more.Γ quot_more.A quot_more.l0.live quot_more.l0.c) (x0, x1, x4, x7, x8, x9) =
    (if x9 < x8 then (if 0 ≤ x9 then (if x9 < (x7.length : Int) then (if 0 ≤ x9 then (if x9 < (x0.length : Int) then (M.bind (mbits_Add32.f (x0.getD x9.toNat 0) (rdI x7 x9) x4) fun t1 => (if 0 ≤ x9 then (if x9 < (x0.length : Int) then (quot_more.l0 (x0.set x9.toNat t1.1) x1 t1.2 x7 x8 (IntKind.i64.wrap (x9 + 1))) else M.none) else M.none)) else M.none) else M.none) else M.none) else M.none) else (if 0 ≤ (x1.length : Int) then (if (x1.length : Int) < (x0.length : Int) then (if 0 ≤ (x1.length : Int) then (if (x1.length : Int) < (x0.length : Int) then (M.ret ((), x0.set ((x1.length : Int).toNat) (IntKind.u32.wrap ((x0.getD ((x1.length : Int).toNat) 0) + x4)))) else M.none) else M.none) else M.none) else M.none)) := by kernel_rfl
theorem quot_more.f_eq {a0 : List Int} {a1 : List Int} : quot_more.f a0 a1 =
    (quot_more.l0 a0 a1 0 a1 (a1.length : Int) 0) := by kernel_rfl
/-! ### quot_back -/
noncomputable def quot_back.Γ : Ctx := ⟨tys, fun f => none, globs, eqs⟩
def quot_back.l0.live : List (Nat × LK) := [(0, .val (.lst (.int .u32))), (1, .val (.int .i64)), (5, .own true (.int .u32)), (11, .val (.int .i64)), (12, .val (.int .i64))]
def quot_back.A : Live := fun i => bif Nat.beq i 6 then some quot_back.l0.live else (none)
noncomputable def quot_back.f (a0 : List Int) (a1 : Int) : M (List Int) := evFn quot_back.Γ quot_back.A Try.f60 (.pair (.lst (.int .u32)) (.int .i64)) (.lst (.int .u32)) (a0, a1)
noncomputable def quot_back.ent : FnE := .plain (.pair (.lst (.int .u32)) (.int .i64)) (.lst (.int .u32)) false fun x => quot_back.f x.1 x.2
noncomputable def quot_back.l0.c : Code × Kont (List Int) := focus quot_back.Γ quot_back.A (bodyOf Try.f60) (finQ quot_back.Γ Try.f60.results.toList (.lst (.int .u32))) [.r, .r, .l, .r, .l]
noncomputable def quot_back.l0 (x0 : List Int) (x1 : Int) (x5 : List Int) (x11 : Int) (x12 : Int) : M (List Int) := loopOf quot_back.Γ quot_back.A quot_back.l0.live quot_back.l0.c (x0, x1, x5, x11, x12)
theorem quot_back.l0_eq {x0 : List Int} {x1 : Int} {x5 : List Int} {x11 : Int} {x12 : Int} :
    roundOf quot_back.Γ quot_back.A quot_back.l0.live quot_back.l0.c (loopOf quot_back.Γ quot_back.A quot_back.l0.live quot_back.l0.c) (x0, x1, x5, x11, x12) =
    (if x12 < x11 then (if 0 ≤ x12 then (if x12 < (x0.length : Int) then (if 0 ≤ x1 then (if 0 ≤ x12 then (if x12 < (x5.length : Int) then (if (IntKind.i64.wrap (x12 + 1)) < (x0.length : Int) then (if 0 ≤ x12 then (if x12 < ((x5.set x12.toNat ((rdI x0 x12).fdiv (2 ^ (min x1.toNat 32)))).length : Int) then (if 0 ≤ (IntKind.i64.wrap (x12 + 1)) then (if (IntKind.i64.wrap (x12 + 1)) < (x0.length : Int) then (if 0 ≤ x1 then (if 0 ≤ x12 then (if x12 < ((x5.set x12.toNat ((rdI x0 x12).fdiv (2 ^ (min x1.toNat 32)))).length : Int) then (quot_back.l0 x0 x1 ((x5.set x12.toNat ((rdI x0 x12).fdiv (2 ^ (min x1.toNat 32)))).set x12.toNat (IntKind.u32.wrap ((BitVec.ofInt IntKind.u32.bits ((x5.set x12.toNat ((rdI x0 x12).fdiv (2 ^ (min x1.toNat 32)))).getD x12.toNat 0) ||| BitVec.ofInt IntKind.u32.bits (IntKind.u32.wrap ((IntKind.u64.wrap ((IntKind.u64.wrap (rdI x0 (IntKind.i64.wrap (x12 + 1)))) * 2 ^ 32)).fdiv (2 ^ (min x1.toNat 64))))).toNat))) x11 (IntKind.i64.wrap (x12 + 1))) else M.none) else M.none) else M.none) else M.none) else M.none) else M.none) else M.none) else (quot_back.l0 x0 x1 (x5.set x12.toNat ((rdI x0 x12).fdiv (2 ^ (min x1.toNat 32)))) x11 (IntKind.i64.wrap (x12 + 1)))) else M.none) else M.none) else M.none) else M.none) else M.none) else (M.ret x5)) := by kernel_rfl
theorem quot_back.f_eq {a0 : List Int} {a1 : Int} : quot_back.f a0 a1 =
    (if 0 ≤ (a0.length : Int) then (if (a0.length : Int) ≤ 1099511627776 then (quot_back.l0 a0 a1 (List.replicate (a0.length : Int).toNat (0 : Int)) (a0.length : Int) 0) else M.none) else M.none) := by kernel_rfl
/-! ### quot_long -/
noncomputable def quot_long.Γ : Ctx := ⟨tys, fun f => bif Nat.beq f 55 then some mbits_LeadingZeros32.ent else (bif Nat.beq f 56 then some quot_shifted.ent else (bif Nat.beq f 57 then some quot_guess.ent else (bif Nat.beq f 58 then some quot_less.ent else (bif Nat.beq f 59 then some quot_more.ent else (bif Nat.beq f 60 then some quot_back.ent else (none)))))), globs, eqs⟩
def quot_long.l0.live : List (Nat × LK) := [(6, .val (.int .i64)), (7, .own true (.int .u32)), (8, .val (.lst (.int .u32))), (9, .own true (.int .u32)), (10, .val (.int .i64))]
def quot_long.A : Live := fun i => bif Nat.beq i 10 then some quot_long.l0.live else (none)
noncomputable def quot_long.f (a0 : List Int) (a1 : List Int) : M ((List Int) × List Int) := evFn quot_long.Γ quot_long.A Try.f47 (.pair (.lst (.int .u32)) (.lst (.int .u32))) (.pair (.lst (.int .u32)) (.lst (.int .u32))) (a0, a1)
noncomputable def quot_long.ent : FnE := .plain (.pair (.lst (.int .u32)) (.lst (.int .u32))) (.pair (.lst (.int .u32)) (.lst (.int .u32))) true fun x => quot_long.f x.1 x.2
noncomputable def quot_long.l0.c : Code × Kont ((List Int) × List Int) := focus quot_long.Γ quot_long.A (bodyOf Try.f47) (finQ quot_long.Γ Try.f47.results.toList (.pair (.lst (.int .u32)) (.lst (.int .u32)))) [.r, .r, .r, .r, .l, .r, .l]
noncomputable def quot_long.l0 (x6 : Int) (x7 : List Int) (x8 : List Int) (x9 : List Int) (x10 : Int) : M ((List Int) × List Int) := loopOf quot_long.Γ quot_long.A quot_long.l0.live quot_long.l0.c (x6, x7, x8, x9, x10)
theorem quot_long.l0_eq {x6 : Int} {x7 : List Int} {x8 : List Int} {x9 : List Int} {x10 : Int} :
    roundOf quot_long.Γ quot_long.A quot_long.l0.live quot_long.l0.c (loopOf quot_long.Γ quot_long.A quot_long.l0.live quot_long.l0.c) (x6, x7, x8, x9, x10) =
    (if x10 ≥ 0 then (if 0 ≤ (IntKind.i64.wrap ((IntKind.i64.wrap (x10 + (x8.length : Int))) + 1)) then (if (IntKind.i64.wrap ((IntKind.i64.wrap (x10 + (x8.length : Int))) + 1)) ≤ (x7.length : Int) then (if 0 ≤ x10 then (if x10 ≤ (IntKind.i64.wrap ((IntKind.i64.wrap (x10 + (x8.length : Int))) + 1)) then (if x10 < (IntKind.i64.wrap ((IntKind.i64.wrap (x10 + (x8.length : Int))) + 1)) then (M.bind (quot_guess.f ((x7.drop x10.toNat).take ((IntKind.i64.wrap ((IntKind.i64.wrap (x10 + (x8.length : Int))) + 1)).toNat - x10.toNat)) x8) fun t1 => (if 0 < ((IntKind.i64.wrap ((IntKind.i64.wrap (x10 + (x8.length : Int))) + 1)).toNat - x10.toNat) then (M.bind (quot_less.f ((x7.drop x10.toNat).take ((IntKind.i64.wrap ((IntKind.i64.wrap (x10 + (x8.length : Int))) + 1)).toNat - x10.toNat)) x8 t1) fun t2 => (if t2.1 = true then (if 0 < ((IntKind.i64.wrap ((IntKind.i64.wrap (x10 + (x8.length : Int))) + 1)).toNat - x10.toNat) then (M.bind (quot_more.f (((x7.take x10.toNat ++ t2.2 ++ x7.drop (x10.toNat + ((IntKind.i64.wrap ((IntKind.i64.wrap (x10 + (x8.length : Int))) + 1)).toNat - x10.toNat))).drop x10.toNat).take ((IntKind.i64.wrap ((IntKind.i64.wrap (x10 + (x8.length : Int))) + 1)).toNat - x10.toNat)) x8) fun t3 => (if 0 ≤ x10 then (if x10 < (x9.length : Int) then (quot_long.l0 x6 ((x7.take x10.toNat ++ t2.2 ++ x7.drop (x10.toNat + ((IntKind.i64.wrap ((IntKind.i64.wrap (x10 + (x8.length : Int))) + 1)).toNat - x10.toNat))).take x10.toNat ++ t3.2 ++ (x7.take x10.toNat ++ t2.2 ++ x7.drop (x10.toNat + ((IntKind.i64.wrap ((IntKind.i64.wrap (x10 + (x8.length : Int))) + 1)).toNat - x10.toNat))).drop (x10.toNat + ((IntKind.i64.wrap ((IntKind.i64.wrap (x10 + (x8.length : Int))) + 1)).toNat - x10.toNat))) x8 (x9.set x10.toNat (IntKind.u32.wrap (IntKind.u64.wrap (t1 - 1)))) (IntKind.i64.wrap (x10 - 1))) else M.none) else M.none)) else M.none) else (if 0 ≤ x10 then (if x10 < (x9.length : Int) then (quot_long.l0 x6 (x7.take x10.toNat ++ t2.2 ++ x7.drop (x10.toNat + ((IntKind.i64.wrap ((IntKind.i64.wrap (x10 + (x8.length : Int))) + 1)).toNat - x10.toNat))) x8 (x9.set x10.toNat (IntKind.u32.wrap (t1))) (IntKind.i64.wrap (x10 - 1))) else M.none) else M.none))) else M.none)) else M.none) else M.none) else M.none) else M.none) else M.none) else (if 0 ≤ (x8.length : Int) then (if (x8.length : Int) ≤ (x7.length : Int) then (M.bind (quot_back.f ((x7.drop 0).take ((x8.length : Int).toNat)) x6) fun t4 => (M.ret (x9, t4))) else M.none) else M.none)) := by kernel_rfl
theorem quot_long.f_eq {a0 : List Int} {a1 : List Int} : quot_long.f a0 a1 =
    (if 0 ≤ (IntKind.i64.wrap ((a1.length : Int) - 1)) then (if (IntKind.i64.wrap ((a1.length : Int) - 1)) < (a1.length : Int) then (M.bind (mbits_LeadingZeros32.f (rdI a1 (IntKind.i64.wrap ((a1.length : Int) - 1)))) fun t1 => (M.bind (quot_shifted.f a0 t1) fun t2 => (M.bind (quot_shifted.f a1 t1) fun t3 => (if 0 ≤ (a1.length : Int) then (if (a1.length : Int) ≤ (t3.length : Int) then (if 0 ≤ (IntKind.i64.wrap ((IntKind.i64.wrap ((a0.length : Int) - (a1.length : Int))) + 1)) then (if (IntKind.i64.wrap ((IntKind.i64.wrap ((a0.length : Int) - (a1.length : Int))) + 1)) ≤ 1099511627776 then (quot_long.l0 t1 t2 ((t3.drop 0).take ((a1.length : Int).toNat)) (List.replicate (IntKind.i64.wrap ((IntKind.i64.wrap ((a0.length : Int) - (a1.length : Int))) + 1)).toNat (0 : Int)) (IntKind.i64.wrap (((List.replicate (IntKind.i64.wrap ((IntKind.i64.wrap ((a0.length : Int) - (a1.length : Int))) + 1)).toNat (0 : Int)).length : Int) - 1))) else M.none) else M.none) else M.none) else M.none)))) else M.none) else M.none) := by kernel_rfl
/-! ### quot_Div -/
noncomputable def quot_Div.Γ : Ctx := ⟨tys, fun f => bif Nat.beq f 7 then some nat_Of.ent else (bif Nat.beq f 17 then some nat_Made.ent else (bif Nat.beq f 45 then some nat_Nat_Limbs.ent else (bif Nat.beq f 46 then some quot_small.ent else (bif Nat.beq f 47 then some quot_long.ent else (none))))), globs, eqs⟩
def quot_Div.A : Live := fun i => none
noncomputable def quot_Div.f (a0 : List Int) (a1 : List Int) : M ((List Int) × (List Int) × Bool) := evFn quot_Div.Γ quot_Div.A Try.f27 (.pair (.agg (.lst (.int .u32))) (.agg (.lst (.int .u32)))) (.pair (.agg (.lst (.int .u32))) (.pair (.agg (.lst (.int .u32))) .bool)) (a0, a1)
noncomputable def quot_Div.ent : FnE := .plain (.pair (.agg (.lst (.int .u32))) (.agg (.lst (.int .u32)))) (.pair (.agg (.lst (.int .u32))) (.pair (.agg (.lst (.int .u32))) .bool)) true fun x => quot_Div.f x.1 x.2
theorem quot_Div.f_eq {a0 : List Int} {a1 : List Int} : quot_Div.f a0 a1 =
    (M.bind (nat_Nat_Limbs.f a0) fun t1 => (M.bind (nat_Nat_Limbs.f a1) fun t2 => (if (t2.length : Int) = 0 then (M.ret (([] : List Int), ([] : List Int), false)) else (if (t1.length : Int) < (t2.length : Int) then (M.ret (([] : List Int), a0, true)) else (if (t2.length : Int) = 1 then (if 0 ≤ 0 then (if 0 < (t2.length : Int) then (M.bind (quot_small.f t1 (rdI t2 0)) fun t3 => (M.bind (nat_Made.f t3.1) fun t4 => (M.bind (nat_Of.f (IntKind.u64.wrap (t3.2))) fun t5 => (M.ret (t4, t5, true))))) else M.none) else M.none) else (M.bind (quot_long.f t1 t2) fun t6 => (M.bind (nat_Made.f t6.1) fun t7 => (M.bind (nat_Made.f t6.2) fun t8 => (M.ret (t7, t8, true)))))))))) := by kernel_rfl
/-! ### quot_Gcd -/
noncomputable def quot_Gcd.Γ : Ctx := ⟨tys, fun f => bif Nat.beq f 15 then some nat_Nat_Bits.ent else (bif Nat.beq f 27 then some quot_Div.ent else (none)), globs, eqs⟩
def quot_Gcd.l0.live : List (Nat × LK) := [(2, .box [(.lst (.int .u32))]), (3, .box [(.lst (.int .u32))]), (4, .box [(.lst (.int .u32))])]
def quot_Gcd.A : Live := fun i => bif Nat.beq i 2 then some quot_Gcd.l0.live else (none)
noncomputable def quot_Gcd.f (a0 : List Int) (a1 : List Int) : M (List Int) := evFn quot_Gcd.Γ quot_Gcd.A Try.f26 (.pair (.agg (.lst (.int .u32))) (.agg (.lst (.int .u32)))) (.agg (.lst (.int .u32))) (a0, a1)
noncomputable def quot_Gcd.ent : FnE := .plain (.pair (.agg (.lst (.int .u32))) (.agg (.lst (.int .u32)))) (.agg (.lst (.int .u32))) false fun x => quot_Gcd.f x.1 x.2
noncomputable def quot_Gcd.l0.c : Code × Kont (List Int) := focus quot_Gcd.Γ quot_Gcd.A (bodyOf Try.f26) (finQ quot_Gcd.Γ Try.f26.results.toList (.agg (.lst (.int .u32)))) [.r, .l, .l]
noncomputable def quot_Gcd.l0 (x2 : List Int) (x3 : List Int) (x4 : List Int) : M (List Int) := loopOf quot_Gcd.Γ quot_Gcd.A quot_Gcd.l0.live quot_Gcd.l0.c (x2, x3, x4)
theorem quot_Gcd.l0_eq {x2 : List Int} {x3 : List Int} {x4 : List Int} :
    roundOf quot_Gcd.Γ quot_Gcd.A quot_Gcd.l0.live quot_Gcd.l0.c (loopOf quot_Gcd.Γ quot_Gcd.A quot_Gcd.l0.live quot_Gcd.l0.c) (x2, x3, x4) =
    (M.bind (nat_Nat_Bits.f x3) fun t1 => (if t1 > 0 then (M.bind (quot_Div.f x2 x3) fun t2 => (quot_Gcd.l0 x3 t2.2.1 x4)) else (M.ret x2))) := by kernel_rfl
theorem quot_Gcd.f_eq {a0 : List Int} {a1 : List Int} : quot_Gcd.f a0 a1 =
    (quot_Gcd.l0 a0 a1 ([] : List Int)) := by kernel_rfl
/-! ### ratio_lowest -/
noncomputable def ratio_lowest.Γ : Ctx := ⟨tys, fun f => bif Nat.beq f 26 then some quot_Gcd.ent else (bif Nat.beq f 27 then some quot_Div.ent else (none)), globs, eqs⟩
def ratio_lowest.A : Live := fun i => none
noncomputable def ratio_lowest.f (a0 : List Int) (a1 : List Int) : M ((List Int) × List Int) := evFn ratio_lowest.Γ ratio_lowest.A Try.f16 (.pair (.agg (.lst (.int .u32))) (.agg (.lst (.int .u32)))) (.agg (.pair (.lst (.int .u32)) (.lst (.int .u32)))) (a0, a1)
noncomputable def ratio_lowest.ent : FnE := .plain (.pair (.agg (.lst (.int .u32))) (.agg (.lst (.int .u32)))) (.agg (.pair (.lst (.int .u32)) (.lst (.int .u32)))) false fun x => ratio_lowest.f x.1 x.2
theorem ratio_lowest.f_eq {a0 : List Int} {a1 : List Int} : ratio_lowest.f a0 a1 =
    (M.bind (quot_Gcd.f a0 a1) fun t1 => (M.bind (quot_Div.f a0 t1) fun t2 => (M.bind (quot_Div.f a1 t1) fun t3 => (M.ret (t2.1, t3.1))))) := by kernel_rfl
/-! ### ratio_Of -/
noncomputable def ratio_Of.Γ : Ctx := ⟨tys, fun f => bif Nat.beq f 15 then some nat_Nat_Bits.ent else (bif Nat.beq f 16 then some ratio_lowest.ent else (none)), globs, eqs⟩
def ratio_Of.A : Live := fun i => none
noncomputable def ratio_Of.f (a0 : List Int) (a1 : List Int) : M (((List Int) × List Int) × Bool) := evFn ratio_Of.Γ ratio_Of.A Try.f6 (.pair (.agg (.lst (.int .u32))) (.agg (.lst (.int .u32)))) (.pair (.agg (.pair (.lst (.int .u32)) (.lst (.int .u32)))) .bool) (a0, a1)
noncomputable def ratio_Of.ent : FnE := .plain (.pair (.agg (.lst (.int .u32))) (.agg (.lst (.int .u32)))) (.pair (.agg (.pair (.lst (.int .u32)) (.lst (.int .u32)))) .bool) true fun x => ratio_Of.f x.1 x.2
theorem ratio_Of.f_eq {a0 : List Int} {a1 : List Int} : ratio_Of.f a0 a1 =
    (M.bind (nat_Nat_Bits.f a1) fun t1 => (if t1 = 0 then (M.ret ((([] : List Int), ([] : List Int)), false)) else (M.bind (ratio_lowest.f a0 a1) fun t2 => (M.ret (t2, true))))) := by kernel_rfl
/-! ### ratio_Ratio_under -/
noncomputable def ratio_Ratio_under.Γ : Ctx := ⟨tys, fun f => bif Nat.beq f 7 then some nat_Of.ent else (bif Nat.beq f 15 then some nat_Nat_Bits.ent else (none)), globs, eqs⟩
def ratio_Ratio_under.A : Live := fun i => none
noncomputable def ratio_Ratio_under.f (a0 : (List Int) × List Int) : M (List Int) := evFn ratio_Ratio_under.Γ ratio_Ratio_under.A Try.f38 (.agg (.pair (.lst (.int .u32)) (.lst (.int .u32)))) (.agg (.lst (.int .u32))) a0
noncomputable def ratio_Ratio_under.ent : FnE := .plain (.agg (.pair (.lst (.int .u32)) (.lst (.int .u32)))) (.agg (.lst (.int .u32))) false fun x => ratio_Ratio_under.f x
theorem ratio_Ratio_under.f_eq {a0 : (List Int) × List Int} : ratio_Ratio_under.f a0 =
    (M.bind (nat_Nat_Bits.f a0.2) fun t1 => (if t1 = 0 then (M.bind (nat_Of.f 1) fun t2 => (M.ret t2)) else (M.ret a0.2))) := by kernel_rfl
/-! ### times_Mul -/
noncomputable def times_Mul.Γ : Ctx := ⟨tys, fun f => bif Nat.beq f 17 then some nat_Made.ent else (bif Nat.beq f 45 then some nat_Nat_Limbs.ent else (none)), globs, eqs⟩
def times_Mul.l0.live : List (Nat × LK) := [(4, .box [(.lst (.int .u32))]), (6, .val (.lst (.int .u32))), (7, .own true (.int .u32)), (23, .val (.lst (.int .u32))), (24, .val (.int .i64)), (25, .val (.int .i64))]
def times_Mul.l1.live : List (Nat × LK) := [(4, .box [(.lst (.int .u32))]), (6, .val (.lst (.int .u32))), (7, .own true (.int .u32)), (8, .val (.int .i64)), (9, .val (.int .u32)), (10, .val (.int .u64)), (23, .val (.lst (.int .u32))), (24, .val (.int .i64)), (25, .val (.int .i64)), (30, .val (.lst (.int .u32))), (31, .val (.int .i64)), (32, .val (.int .i64))]
def times_Mul.A : Live := fun i => bif Nat.beq i 8 then some times_Mul.l0.live else (bif Nat.beq i 16 then some times_Mul.l1.live else (none))
noncomputable def times_Mul.f (a0 : List Int) (a1 : List Int) : M (List Int) := evFn times_Mul.Γ times_Mul.A Try.f39 (.pair (.agg (.lst (.int .u32))) (.agg (.lst (.int .u32)))) (.agg (.lst (.int .u32))) (a0, a1)
noncomputable def times_Mul.ent : FnE := .plain (.pair (.agg (.lst (.int .u32))) (.agg (.lst (.int .u32)))) (.agg (.lst (.int .u32))) false fun x => times_Mul.f x.1 x.2
noncomputable def times_Mul.l0.c : Code × Kont (List Int) := focus times_Mul.Γ times_Mul.A (bodyOf Try.f39) (finQ times_Mul.Γ Try.f39.results.toList (.agg (.lst (.int .u32)))) [.r, .r, .r, .l, .r, .l]
noncomputable def times_Mul.l0 (x4 : List Int) (x6 : List Int) (x7 : List Int) (x23 : List Int) (x24 : Int) (x25 : Int) : M (List Int) := loopOf times_Mul.Γ times_Mul.A times_Mul.l0.live times_Mul.l0.c (x4, x6, x7, x23, x24, x25)
noncomputable def times_Mul.l1.c : Code × Kont (List Int) := focus times_Mul.Γ times_Mul.A (bodyOf Try.f39) (finQ times_Mul.Γ Try.f39.results.toList (.agg (.lst (.int .u32)))) [.r, .r, .r, .l, .r, .l, .l, .r, .r, .l, .l, .r, .r, .l, .r, .l]
noncomputable def times_Mul.l1 (x4 : List Int) (x6 : List Int) (x7 : List Int) (x8 : Int) (x9 : Int) (x10 : Int) (x23 : List Int) (x24 : Int) (x25 : Int) (x30 : List Int) (x31 : Int) (x32 : Int) : M (List Int) := loopOf times_Mul.Γ times_Mul.A times_Mul.l1.live times_Mul.l1.c (x4, x6, x7, x8, x9, x10, x23, x24, x25, x30, x31, x32)
theorem times_Mul.l0_eq {x4 : List Int} {x6 : List Int} {x7 : List Int} {x23 : List Int} {x24 : Int} {x25 : Int} :
    roundOf times_Mul.Γ times_Mul.A times_Mul.l0.live times_Mul.l0.c (loopOf times_Mul.Γ times_Mul.A times_Mul.l0.live times_Mul.l0.c) (x4, x6, x7, x23, x24, x25) =
    (if x25 < x24 then (if 0 ≤ x25 then (if x25 < (x23.length : Int) then (times_Mul.l1 x4 x6 x7 x25 (rdI x23 x25) 0 x23 x24 x25 x6 (x6.length : Int) 0) else M.none) else M.none) else (M.bind (nat_Made.f x7) fun t1 => (M.ret t1))) := by kernel_rfl
theorem times_Mul.l1_eq {x4 : List Int} {x6 : List Int} {x7 : List Int} {x8 : Int} {x9 : Int} {x10 : Int} {x23 : List Int} {x24 : Int} {x25 : Int} {x30 : List Int} {x31 : Int} {x32 : Int} :
    roundOf times_Mul.Γ times_Mul.A times_Mul.l1.live times_Mul.l1.c (loopOf times_Mul.Γ times_Mul.A times_Mul.l1.live times_Mul.l1.c) (x4, x6, x7, x8, x9, x10, x23, x24, x25, x30, x31, x32) =
    (if x32 < x31 then (if 0 ≤ x32 then (if x32 < (x30.length : Int) then (if 0 ≤ (IntKind.i64.wrap (x8 + x32)) then (if (IntKind.i64.wrap (x8 + x32)) < (x7.length : Int) then (if 0 ≤ (IntKind.i64.wrap (x8 + x32)) then (if (IntKind.i64.wrap (x8 + x32)) < (x7.length : Int) then (times_Mul.l1 x4 x6 (x7.set ((IntKind.i64.wrap (x8 + x32)).toNat) (IntKind.u32.wrap (IntKind.u64.wrap (x10 + (IntKind.u64.wrap ((IntKind.u64.wrap ((IntKind.u64.wrap (x9)) * (IntKind.u64.wrap (rdI x30 x32)))) + (IntKind.u64.wrap (x7.getD ((IntKind.i64.wrap (x8 + x32)).toNat) 0)))))))) x8 x9 ((IntKind.u64.wrap (x10 + (IntKind.u64.wrap ((IntKind.u64.wrap ((IntKind.u64.wrap (x9)) * (IntKind.u64.wrap (rdI x30 x32)))) + (IntKind.u64.wrap (x7.getD ((IntKind.i64.wrap (x8 + x32)).toNat) 0)))))).fdiv (2 ^ 32)) x23 x24 x25 x30 x31 (IntKind.i64.wrap (x32 + 1))) else M.none) else M.none) else M.none) else M.none) else M.none) else M.none) else (if 0 ≤ (IntKind.i64.wrap (x8 + (x6.length : Int))) then (if (IntKind.i64.wrap (x8 + (x6.length : Int))) < (x7.length : Int) then (times_Mul.l0 x4 x6 (x7.set ((IntKind.i64.wrap (x8 + (x6.length : Int))).toNat) (IntKind.u32.wrap (x10))) x23 x24 (IntKind.i64.wrap (x25 + 1))) else M.none) else M.none)) := by kernel_rfl
theorem times_Mul.f_eq {a0 : List Int} {a1 : List Int} : times_Mul.f a0 a1 =
    (M.bind (nat_Nat_Limbs.f a0) fun t1 => (M.bind (nat_Nat_Limbs.f a1) fun t2 => (if 0 ≤ (IntKind.i64.wrap ((t1.length : Int) + (t2.length : Int))) then (if (IntKind.i64.wrap ((t1.length : Int) + (t2.length : Int))) ≤ 1099511627776 then (times_Mul.l0 ([] : List Int) t2 (List.replicate (IntKind.i64.wrap ((t1.length : Int) + (t2.length : Int))).toNat (0 : Int)) t1 (t1.length : Int) 0) else M.none) else M.none))) := by kernel_rfl
/-! ### ratio_Mul -/
noncomputable def ratio_Mul.Γ : Ctx := ⟨tys, fun f => bif Nat.beq f 16 then some ratio_lowest.ent else (bif Nat.beq f 38 then some ratio_Ratio_under.ent else (bif Nat.beq f 39 then some times_Mul.ent else (none))), globs, eqs⟩
def ratio_Mul.A : Live := fun i => none
noncomputable def ratio_Mul.f (a0 : (List Int) × List Int) (a1 : (List Int) × List Int) : M ((List Int) × List Int) := evFn ratio_Mul.Γ ratio_Mul.A Try.f30 (.pair (.agg (.pair (.lst (.int .u32)) (.lst (.int .u32)))) (.agg (.pair (.lst (.int .u32)) (.lst (.int .u32))))) (.agg (.pair (.lst (.int .u32)) (.lst (.int .u32)))) (a0, a1)
noncomputable def ratio_Mul.ent : FnE := .plain (.pair (.agg (.pair (.lst (.int .u32)) (.lst (.int .u32)))) (.agg (.pair (.lst (.int .u32)) (.lst (.int .u32))))) (.agg (.pair (.lst (.int .u32)) (.lst (.int .u32)))) false fun x => ratio_Mul.f x.1 x.2
theorem ratio_Mul.f_eq {a0 : (List Int) × List Int} {a1 : (List Int) × List Int} : ratio_Mul.f a0 a1 =
    (M.bind (times_Mul.f a0.1 a1.1) fun t1 => (M.bind (ratio_Ratio_under.f a0) fun t2 => (M.bind (ratio_Ratio_under.f a1) fun t3 => (M.bind (times_Mul.f t2 t3) fun t4 => (M.bind (ratio_lowest.f t1 t4) fun t5 => (M.ret t5)))))) := by kernel_rfl
/-! ### ratio_Ratio_Terms -/
noncomputable def ratio_Ratio_Terms.Γ : Ctx := ⟨tys, fun f => bif Nat.beq f 38 then some ratio_Ratio_under.ent else (none), globs, eqs⟩
def ratio_Ratio_Terms.A : Live := fun i => none
noncomputable def ratio_Ratio_Terms.f (a0 : (List Int) × List Int) : M ((List Int) × List Int) := evFn ratio_Ratio_Terms.Γ ratio_Ratio_Terms.A Try.f32 (.agg (.pair (.lst (.int .u32)) (.lst (.int .u32)))) (.pair (.agg (.lst (.int .u32))) (.agg (.lst (.int .u32)))) a0
noncomputable def ratio_Ratio_Terms.ent : FnE := .plain (.agg (.pair (.lst (.int .u32)) (.lst (.int .u32)))) (.pair (.agg (.lst (.int .u32))) (.agg (.lst (.int .u32)))) true fun x => ratio_Ratio_Terms.f x
theorem ratio_Ratio_Terms.f_eq {a0 : (List Int) × List Int} : ratio_Ratio_Terms.f a0 =
    (M.bind (ratio_Ratio_under.f a0) fun t1 => (M.ret (a0.1, t1))) := by kernel_rfl
/-! ### nat_Nat_at -/
noncomputable def nat_Nat_at.Γ : Ctx := ⟨tys, fun f => none, globs, eqs⟩
def nat_Nat_at.A : Live := fun i => none
noncomputable def nat_Nat_at.f (a0 : List Int) (a1 : Int) : M Int := evFn nat_Nat_at.Γ nat_Nat_at.A Try.f41 (.pair (.agg (.lst (.int .u32))) (.int .i64)) (.int .u32) (a0, a1)
noncomputable def nat_Nat_at.ent : FnE := .plain (.pair (.agg (.lst (.int .u32))) (.int .i64)) (.int .u32) false fun x => nat_Nat_at.f x.1 x.2
theorem nat_Nat_at.f_eq {a0 : List Int} {a1 : Int} : nat_Nat_at.f a0 a1 =
    (if a1 < (a0.length : Int) then (if 0 ≤ a1 then (if a1 < (a0.length : Int) then (M.ret (rdI a0 a1)) else M.none) else M.none) else (M.ret 0)) := by kernel_rfl
/-! ### nat_Add -/
noncomputable def nat_Add.Γ : Ctx := ⟨tys, fun f => bif Nat.beq f 17 then some nat_Made.ent else (bif Nat.beq f 40 then some mbits_Add32.ent else (bif Nat.beq f 41 then some nat_Nat_at.ent else (none))), globs, eqs⟩
def nat_Add.l0.live : List (Nat × LK) := [(2, .box [(.lst (.int .u32))]), (3, .box [(.lst (.int .u32))]), (4, .box [(.lst (.int .u32))]), (6, .own true (.int .u32)), (7, .val (.int .u32)), (20, .val (.int .i64)), (21, .val (.int .i64))]
def nat_Add.A : Live := fun i => bif Nat.beq i 10 then some nat_Add.l0.live else (none)
noncomputable def nat_Add.f (a0 : List Int) (a1 : List Int) : M (List Int) := evFn nat_Add.Γ nat_Add.A Try.f22 (.pair (.agg (.lst (.int .u32))) (.agg (.lst (.int .u32)))) (.agg (.lst (.int .u32))) (a0, a1)
noncomputable def nat_Add.ent : FnE := .plain (.pair (.agg (.lst (.int .u32))) (.agg (.lst (.int .u32)))) (.agg (.lst (.int .u32))) false fun x => nat_Add.f x.1 x.2
noncomputable def nat_Add.l0.c : Code × Kont (List Int) := focus nat_Add.Γ nat_Add.A (bodyOf Try.f22) (finQ nat_Add.Γ Try.f22.results.toList (.agg (.lst (.int .u32)))) [.r, .r, .r, .r, .l, .r, .l]
noncomputable def nat_Add.l0 (x2 : List Int) (x3 : List Int) (x4 : List Int) (x6 : List Int) (x7 : Int) (x20 : Int) (x21 : Int) : M (List Int) := loopOf nat_Add.Γ nat_Add.A nat_Add.l0.live nat_Add.l0.c (x2, x3, x4, x6, x7, x20, x21)
theorem nat_Add.l0_eq {x2 : List Int} {x3 : List Int} {x4 : List Int} {x6 : List Int} {x7 : Int} {x20 : Int} {x21 : Int} :
    roundOf nat_Add.Γ nat_Add.A nat_Add.l0.live nat_Add.l0.c (loopOf nat_Add.Γ nat_Add.A nat_Add.l0.live nat_Add.l0.c) (x2, x3, x4, x6, x7, x20, x21) =
    (if x21 < x20 then (M.bind (nat_Nat_at.f x2 x21) fun t1 => (M.bind (nat_Nat_at.f x3 x21) fun t2 => (M.bind (mbits_Add32.f t1 t2 x7) fun t3 => (if 0 ≤ x21 then (if x21 < (x6.length : Int) then (nat_Add.l0 x2 x3 x4 (x6.set x21.toNat t3.1) t3.2 x20 (IntKind.i64.wrap (x21 + 1))) else M.none) else M.none)))) else (M.bind (nat_Made.f x6) fun t4 => (M.ret t4))) := by kernel_rfl
theorem nat_Add.f_eq {a0 : List Int} {a1 : List Int} : nat_Add.f a0 a1 =
    (if 0 ≤ (IntKind.i64.wrap ((mxI (a0.length : Int) (a1.length : Int)) + 1)) then (if (IntKind.i64.wrap ((mxI (a0.length : Int) (a1.length : Int)) + 1)) ≤ 1099511627776 then (nat_Add.l0 a0 a1 ([] : List Int) (List.replicate (IntKind.i64.wrap ((mxI (a0.length : Int) (a1.length : Int)) + 1)).toNat (0 : Int)) 0 ((List.replicate (IntKind.i64.wrap ((mxI (a0.length : Int) (a1.length : Int)) + 1)).toNat (0 : Int)).length : Int) 0) else M.none) else M.none) := by kernel_rfl
/-! ### cmp_isNaN_int -/
noncomputable def cmp_isNaN_int.Γ : Ctx := ⟨tys, fun f => none, globs, eqs⟩
def cmp_isNaN_int.A : Live := fun i => none
noncomputable def cmp_isNaN_int.f (a0 : Int) : M Bool := evFn cmp_isNaN_int.Γ cmp_isNaN_int.A Try.f52 (.int .i64) .bool a0
noncomputable def cmp_isNaN_int.ent : FnE := .plain (.int .i64) .bool false fun x => cmp_isNaN_int.f x
theorem cmp_isNaN_int.f_eq {a0 : Int} : cmp_isNaN_int.f a0 =
    (M.ret (decide (a0 ≠ a0))) := by kernel_rfl
/-! ### cmp_Compare_int -/
noncomputable def cmp_Compare_int.Γ : Ctx := ⟨tys, fun f => bif Nat.beq f 52 then some cmp_isNaN_int.ent else (none), globs, eqs⟩
def cmp_Compare_int.A : Live := fun i => none
noncomputable def cmp_Compare_int.f (a0 : Int) (a1 : Int) : M Int := evFn cmp_Compare_int.Γ cmp_Compare_int.A Try.f42 (.pair (.int .i64) (.int .i64)) (.int .i64) (a0, a1)
noncomputable def cmp_Compare_int.ent : FnE := .plain (.pair (.int .i64) (.int .i64)) (.int .i64) false fun x => cmp_Compare_int.f x.1 x.2
theorem cmp_Compare_int.f_eq {a0 : Int} {a1 : Int} : cmp_Compare_int.f a0 a1 =
    (M.bind (cmp_isNaN_int.f a0) fun t1 => (M.bind (cmp_isNaN_int.f a1) fun t2 => (if t1 = true then (if t2 = true then (M.ret 0) else (M.ret (-1))) else (if t2 = true then (M.ret 1) else (if a0 < a1 then (M.ret (-1)) else (if a0 > a1 then (M.ret 1) else (M.ret 0))))))) := by kernel_rfl
/-! ### cmp_isNaN_uint32 -/
noncomputable def cmp_isNaN_uint32.Γ : Ctx := ⟨tys, fun f => none, globs, eqs⟩
def cmp_isNaN_uint32.A : Live := fun i => none
noncomputable def cmp_isNaN_uint32.f (a0 : Int) : M Bool := evFn cmp_isNaN_uint32.Γ cmp_isNaN_uint32.A Try.f53 (.int .u32) .bool a0
noncomputable def cmp_isNaN_uint32.ent : FnE := .plain (.int .u32) .bool false fun x => cmp_isNaN_uint32.f x
theorem cmp_isNaN_uint32.f_eq {a0 : Int} : cmp_isNaN_uint32.f a0 =
    (M.ret (decide (a0 ≠ a0))) := by kernel_rfl
/-! ### cmp_Compare_uint32 -/
noncomputable def cmp_Compare_uint32.Γ : Ctx := ⟨tys, fun f => bif Nat.beq f 53 then some cmp_isNaN_uint32.ent else (none), globs, eqs⟩
def cmp_Compare_uint32.A : Live := fun i => none
noncomputable def cmp_Compare_uint32.f (a0 : Int) (a1 : Int) : M Int := evFn cmp_Compare_uint32.Γ cmp_Compare_uint32.A Try.f43 (.pair (.int .u32) (.int .u32)) (.int .i64) (a0, a1)
noncomputable def cmp_Compare_uint32.ent : FnE := .plain (.pair (.int .u32) (.int .u32)) (.int .i64) false fun x => cmp_Compare_uint32.f x.1 x.2
theorem cmp_Compare_uint32.f_eq {a0 : Int} {a1 : Int} : cmp_Compare_uint32.f a0 a1 =
    (M.bind (cmp_isNaN_uint32.f a0) fun t1 => (M.bind (cmp_isNaN_uint32.f a1) fun t2 => (if t1 = true then (if t2 = true then (M.ret 0) else (M.ret (-1))) else (if t2 = true then (M.ret 1) else (if a0 < a1 then (M.ret (-1)) else (if a0 > a1 then (M.ret 1) else (M.ret 0))))))) := by kernel_rfl
/-! ### nat_Cmp -/
noncomputable def nat_Cmp.Γ : Ctx := ⟨tys, fun f => bif Nat.beq f 42 then some cmp_Compare_int.ent else (bif Nat.beq f 43 then some cmp_Compare_uint32.ent else (none)), globs, eqs⟩
def nat_Cmp.l0.live : List (Nat × LK) := [(2, .box [(.lst (.int .u32))]), (3, .box [(.lst (.int .u32))]), (6, .val (.int .i64))]
def nat_Cmp.A : Live := fun i => bif Nat.beq i 10 then some nat_Cmp.l0.live else (none)
noncomputable def nat_Cmp.f (a0 : List Int) (a1 : List Int) : M Int := evFn nat_Cmp.Γ nat_Cmp.A Try.f23 (.pair (.agg (.lst (.int .u32))) (.agg (.lst (.int .u32)))) (.int .i64) (a0, a1)
noncomputable def nat_Cmp.ent : FnE := .plain (.pair (.agg (.lst (.int .u32))) (.agg (.lst (.int .u32)))) (.int .i64) false fun x => nat_Cmp.f x.1 x.2
noncomputable def nat_Cmp.l0.c : Code × Kont Int := focus nat_Cmp.Γ nat_Cmp.A (bodyOf Try.f23) (finQ nat_Cmp.Γ Try.f23.results.toList (.int .i64)) [.r, .r, .l, .r, .l]
noncomputable def nat_Cmp.l0 (x2 : List Int) (x3 : List Int) (x6 : Int) : M Int := loopOf nat_Cmp.Γ nat_Cmp.A nat_Cmp.l0.live nat_Cmp.l0.c (x2, x3, x6)
theorem nat_Cmp.l0_eq {x2 : List Int} {x3 : List Int} {x6 : Int} :
    roundOf nat_Cmp.Γ nat_Cmp.A nat_Cmp.l0.live nat_Cmp.l0.c (loopOf nat_Cmp.Γ nat_Cmp.A nat_Cmp.l0.live nat_Cmp.l0.c) (x2, x3, x6) =
    (if x6 ≥ 0 then (if 0 ≤ x6 then (if x6 < (x2.length : Int) then (if 0 ≤ x6 then (if x6 < (x3.length : Int) then (M.bind (cmp_Compare_uint32.f (rdI x2 x6) (rdI x3 x6)) fun t1 => (if t1 ≠ 0 then (M.ret t1) else (nat_Cmp.l0 x2 x3 (IntKind.i64.wrap (x6 - 1))))) else M.none) else M.none) else M.none) else M.none) else (M.ret 0)) := by kernel_rfl
theorem nat_Cmp.f_eq {a0 : List Int} {a1 : List Int} : nat_Cmp.f a0 a1 =
    (M.bind (cmp_Compare_int.f (a0.length : Int) (a1.length : Int)) fun t1 => (if t1 ≠ 0 then (M.ret t1) else (nat_Cmp.l0 a0 a1 (IntKind.i64.wrap ((a0.length : Int) - 1))))) := by kernel_rfl
/-! ### quot_Half -/
noncomputable def quot_Half.Γ : Ctx := ⟨tys, fun f => bif Nat.beq f 7 then some nat_Of.ent else (bif Nat.beq f 22 then some nat_Add.ent else (bif Nat.beq f 23 then some nat_Cmp.ent else (bif Nat.beq f 27 then some quot_Div.ent else (none)))), globs, eqs⟩
def quot_Half.A : Live := fun i => none
noncomputable def quot_Half.f (a0 : List Int) (a1 : List Int) : M ((List Int) × Bool) := evFn quot_Half.Γ quot_Half.A Try.f61 (.pair (.agg (.lst (.int .u32))) (.agg (.lst (.int .u32)))) (.pair (.agg (.lst (.int .u32))) .bool) (a0, a1)
noncomputable def quot_Half.ent : FnE := .plain (.pair (.agg (.lst (.int .u32))) (.agg (.lst (.int .u32)))) (.pair (.agg (.lst (.int .u32))) .bool) true fun x => quot_Half.f x.1 x.2
theorem quot_Half.f_eq {a0 : List Int} {a1 : List Int} : quot_Half.f a0 a1 =
    (M.bind (quot_Div.f a0 a1) fun t1 => (if t1.2.2 = true then (M.bind (nat_Add.f t1.2.1 t1.2.1) fun t2 => (M.bind (nat_Cmp.f t2 a1) fun t3 => (if t3 ≥ 0 then (M.bind (nat_Of.f 1) fun t4 => (M.bind (nat_Add.f t1.1 t4) fun t5 => (M.ret (t5, t1.2.2)))) else (M.ret (t1.1, t1.2.2))))) else (M.ret (t1.1, t1.2.2)))) := by kernel_rfl
/-! ### round_whole -/
noncomputable def round_whole.Γ : Ctx := ⟨tys, fun f => bif Nat.beq f 32 then some ratio_Ratio_Terms.ent else (bif Nat.beq f 61 then some quot_Half.ent else (none)), globs, eqs⟩
def round_whole.A : Live := fun i => none
noncomputable def round_whole.f (a0 : (List Int) × List Int) : M (List Int) := evFn round_whole.Γ round_whole.A Try.f48 (.agg (.pair (.lst (.int .u32)) (.lst (.int .u32)))) (.agg (.lst (.int .u32))) a0
noncomputable def round_whole.ent : FnE := .plain (.agg (.pair (.lst (.int .u32)) (.lst (.int .u32)))) (.agg (.lst (.int .u32))) false fun x => round_whole.f x
theorem round_whole.f_eq {a0 : (List Int) × List Int} : round_whole.f a0 =
    (M.bind (ratio_Ratio_Terms.f a0) fun t1 => (M.bind (quot_Half.f t1.1 t1.2) fun t2 => (M.ret t2.1))) := by kernel_rfl
/-! ### round_Step -/
noncomputable def round_Step.Γ : Ctx := ⟨tys, fun f => bif Nat.beq f 6 then some ratio_Of.ent else (bif Nat.beq f 7 then some nat_Of.ent else (bif Nat.beq f 30 then some ratio_Mul.ent else (bif Nat.beq f 32 then some ratio_Ratio_Terms.ent else (bif Nat.beq f 48 then some round_whole.ent else (none))))), globs, eqs⟩
def round_Step.A : Live := fun i => none
noncomputable def round_Step.f (a0 : (List Int) × List Int) (a1 : (List Int) × List Int) : M (((List Int) × List Int) × Bool) := evFn round_Step.Γ round_Step.A Try.f29 (.pair (.agg (.pair (.lst (.int .u32)) (.lst (.int .u32)))) (.agg (.pair (.lst (.int .u32)) (.lst (.int .u32))))) (.pair (.agg (.pair (.lst (.int .u32)) (.lst (.int .u32)))) .bool) (a0, a1)
noncomputable def round_Step.ent : FnE := .plain (.pair (.agg (.pair (.lst (.int .u32)) (.lst (.int .u32)))) (.agg (.pair (.lst (.int .u32)) (.lst (.int .u32))))) (.pair (.agg (.pair (.lst (.int .u32)) (.lst (.int .u32)))) .bool) true fun x => round_Step.f x.1 x.2
theorem round_Step.f_eq {a0 : (List Int) × List Int} {a1 : (List Int) × List Int} : round_Step.f a0 a1 =
    (M.bind (ratio_Ratio_Terms.f a1) fun t1 => (M.bind (ratio_Of.f t1.2 t1.1) fun t2 => (if (!t2.2) = true then (M.ret ((([] : List Int), ([] : List Int)), false)) else (M.bind (ratio_Mul.f a0 t2.1) fun t3 => (M.bind (round_whole.f t3) fun t4 => (M.bind (nat_Of.f 1) fun t5 => (M.bind (ratio_Of.f t4 t5) fun t6 => (M.bind (ratio_Mul.f t6.1 a1) fun t7 => (M.ret (t7, true)))))))))) := by kernel_rfl
/-! ### times_Pow -/
noncomputable def times_Pow.Γ : Ctx := ⟨tys, fun f => bif Nat.beq f 7 then some nat_Of.ent else (bif Nat.beq f 39 then some times_Mul.ent else (none)), globs, eqs⟩
def times_Pow.l0.live : List (Nat × LK) := [(1, .val (.int .i64)), (2, .box [(.lst (.int .u32))]), (4, .box [(.lst (.int .u32))]), (5, .box [(.lst (.int .u32))])]
def times_Pow.A : Live := fun i => bif Nat.beq i 4 then some times_Pow.l0.live else (none)
noncomputable def times_Pow.f (a0 : List Int) (a1 : Int) : M (List Int) := evFn times_Pow.Γ times_Pow.A Try.f62 (.pair (.agg (.lst (.int .u32))) (.int .i64)) (.agg (.lst (.int .u32))) (a0, a1)
noncomputable def times_Pow.ent : FnE := .plain (.pair (.agg (.lst (.int .u32))) (.int .i64)) (.agg (.lst (.int .u32))) false fun x => times_Pow.f x.1 x.2
noncomputable def times_Pow.l0.c : Code × Kont (List Int) := focus times_Pow.Γ times_Pow.A (bodyOf Try.f62) (finQ times_Pow.Γ Try.f62.results.toList (.agg (.lst (.int .u32)))) [.r, .r, .l, .l]
noncomputable def times_Pow.l0 (x1 : Int) (x2 : List Int) (x4 : List Int) (x5 : List Int) : M (List Int) := loopOf times_Pow.Γ times_Pow.A times_Pow.l0.live times_Pow.l0.c (x1, x2, x4, x5)
theorem times_Pow.l0_eq {x1 : Int} {x2 : List Int} {x4 : List Int} {x5 : List Int} :
    roundOf times_Pow.Γ times_Pow.A times_Pow.l0.live times_Pow.l0.c (loopOf times_Pow.Γ times_Pow.A times_Pow.l0.live times_Pow.l0.c) (x1, x2, x4, x5) =
    (if x1 > 0 then (if (IntKind.i64.wrap ((BitVec.ofInt IntKind.i64.bits x1 &&& BitVec.ofInt IntKind.i64.bits 1).toNat)) = 1 then (M.bind (times_Mul.f x5 x2) fun t1 => (if x1 > 1 then (M.bind (times_Mul.f x2 x2) fun t2 => (times_Pow.l0 (x1.fdiv (2 ^ 1)) t2 x4 t1)) else (times_Pow.l0 (x1.fdiv (2 ^ 1)) x2 x4 t1))) else (if x1 > 1 then (M.bind (times_Mul.f x2 x2) fun t3 => (times_Pow.l0 (x1.fdiv (2 ^ 1)) t3 x4 x5)) else (times_Pow.l0 (x1.fdiv (2 ^ 1)) x2 x4 x5))) else (M.ret x5)) := by kernel_rfl
theorem times_Pow.f_eq {a0 : List Int} {a1 : Int} : times_Pow.f a0 a1 =
    (M.bind (nat_Of.f 1) fun t1 => (times_Pow.l0 a1 a0 ([] : List Int) t1)) := by kernel_rfl
/-! ### tens_Ten -/
noncomputable def tens_Ten.Γ : Ctx := ⟨tys, fun f => bif Nat.beq f 7 then some nat_Of.ent else (bif Nat.beq f 62 then some times_Pow.ent else (none)), globs, eqs⟩
def tens_Ten.A : Live := fun i => none
noncomputable def tens_Ten.f (a0 : Int) : M (List Int) := evFn tens_Ten.Γ tens_Ten.A Try.f49 (.int .i64) (.agg (.lst (.int .u32))) a0
noncomputable def tens_Ten.ent : FnE := .plain (.int .i64) (.agg (.lst (.int .u32))) false fun x => tens_Ten.f x
theorem tens_Ten.f_eq {a0 : Int} : tens_Ten.f a0 =
    (M.bind (nat_Of.f 10) fun t1 => (M.bind (times_Pow.f t1 a0) fun t2 => (M.ret t2))) := by kernel_rfl
/-! ### ratio_Ratio_Scale -/
noncomputable def ratio_Ratio_Scale.Γ : Ctx := ⟨tys, fun f => bif Nat.beq f 16 then some ratio_lowest.ent else (bif Nat.beq f 38 then some ratio_Ratio_under.ent else (bif Nat.beq f 39 then some times_Mul.ent else (bif Nat.beq f 49 then some tens_Ten.ent else (none)))), globs, eqs⟩
def ratio_Ratio_Scale.A : Live := fun i => none
noncomputable def ratio_Ratio_Scale.f (a0 : (List Int) × List Int) (a1 : Int) : M ((List Int) × List Int) := evFn ratio_Ratio_Scale.Γ ratio_Ratio_Scale.A Try.f31 (.pair (.agg (.pair (.lst (.int .u32)) (.lst (.int .u32)))) (.int .i64)) (.agg (.pair (.lst (.int .u32)) (.lst (.int .u32)))) (a0, a1)
noncomputable def ratio_Ratio_Scale.ent : FnE := .plain (.pair (.agg (.pair (.lst (.int .u32)) (.lst (.int .u32)))) (.int .i64)) (.agg (.pair (.lst (.int .u32)) (.lst (.int .u32)))) false fun x => ratio_Ratio_Scale.f x.1 x.2
theorem ratio_Ratio_Scale.f_eq {a0 : (List Int) × List Int} {a1 : Int} : ratio_Ratio_Scale.f a0 a1 =
    (if a1 < (-5000) then (M.ret (([] : List Int), ([] : List Int))) else (if a1 > 5000 then (M.ret (([] : List Int), ([] : List Int))) else (if a1 < 0 then (M.bind (ratio_Ratio_under.f a0) fun t1 => (M.bind (tens_Ten.f (IntKind.i64.wrap (0 - a1))) fun t2 => (M.bind (times_Mul.f t1 t2) fun t3 => (M.bind (ratio_lowest.f a0.1 t3) fun t4 => (M.ret t4))))) else (M.bind (tens_Ten.f a1) fun t5 => (M.bind (times_Mul.f a0.1 t5) fun t6 => (M.bind (ratio_Ratio_under.f a0) fun t7 => (M.bind (ratio_lowest.f t6 t7) fun t8 => (M.ret t8)))))))) := by kernel_rfl
/-! ### nat_Nat_Small -/
noncomputable def nat_Nat_Small.Γ : Ctx := ⟨tys, fun f => none, globs, eqs⟩
def nat_Nat_Small.l0.live : List (Nat × LK) := [(4, .val (.int .u64)), (12, .val (.lst (.int .u32))), (13, .val (.int .i64)), (14, .val (.int .i64))]
def nat_Nat_Small.A : Live := fun i => bif Nat.beq i 10 then some nat_Nat_Small.l0.live else (none)
noncomputable def nat_Nat_Small.f (a0 : List Int) : M (Int × Bool) := evFn nat_Nat_Small.Γ nat_Nat_Small.A Try.f33 (.agg (.lst (.int .u32))) (.pair (.int .u64) .bool) a0
noncomputable def nat_Nat_Small.ent : FnE := .plain (.agg (.lst (.int .u32))) (.pair (.int .u64) .bool) true fun x => nat_Nat_Small.f x
noncomputable def nat_Nat_Small.l0.c : Code × Kont (Int × Bool) := focus nat_Nat_Small.Γ nat_Nat_Small.A (bodyOf Try.f33) (finQ nat_Nat_Small.Γ Try.f33.results.toList (.pair (.int .u64) .bool)) [.r, .r, .r, .l, .r, .l]
noncomputable def nat_Nat_Small.l0 (x4 : Int) (x12 : List Int) (x13 : Int) (x14 : Int) : M (Int × Bool) := loopOf nat_Nat_Small.Γ nat_Nat_Small.A nat_Nat_Small.l0.live nat_Nat_Small.l0.c (x4, x12, x13, x14)
theorem nat_Nat_Small.l0_eq {x4 : Int} {x12 : List Int} {x13 : Int} {x14 : Int} :
    roundOf nat_Nat_Small.Γ nat_Nat_Small.A nat_Nat_Small.l0.live nat_Nat_Small.l0.c (loopOf nat_Nat_Small.Γ nat_Nat_Small.A nat_Nat_Small.l0.live nat_Nat_Small.l0.c) (x4, x12, x13, x14) =
    (if x14 < x13 then (if 0 ≤ x14 then (if x14 < (x12.length : Int) then (if 0 ≤ IntKind.i64.wrap (32 * x14) then (nat_Nat_Small.l0 (IntKind.u64.wrap ((BitVec.ofInt IntKind.u64.bits x4 ||| BitVec.ofInt IntKind.u64.bits (IntKind.u64.wrap ((IntKind.u64.wrap (rdI x12 x14)) * 2 ^ (min (IntKind.i64.wrap (32 * x14)).toNat 64)))).toNat)) x12 x13 (IntKind.i64.wrap (x14 + 1))) else M.none) else M.none) else M.none) else (M.ret (x4, true))) := by kernel_rfl
theorem nat_Nat_Small.f_eq {a0 : List Int} : nat_Nat_Small.f a0 =
    (if (a0.length : Int) > 2 then (M.ret (0, false)) else (nat_Nat_Small.l0 0 a0 (a0.length : Int) 0)) := by kernel_rfl
/-! ### clock_units -/
noncomputable def clock_units.Γ : Ctx := ⟨tys, fun f => bif Nat.beq f 6 then some ratio_Of.ent else (bif Nat.beq f 7 then some nat_Of.ent else (bif Nat.beq f 29 then some round_Step.ent else (bif Nat.beq f 30 then some ratio_Mul.ent else (bif Nat.beq f 31 then some ratio_Ratio_Scale.ent else (bif Nat.beq f 32 then some ratio_Ratio_Terms.ent else (bif Nat.beq f 33 then some nat_Nat_Small.ent else (none))))))), globs, eqs⟩
def clock_units.A : Live := fun i => none
noncomputable def clock_units.f (a0 : (List Int) × List Int) (a1 : Int) : M (Int × Bool) := evFn clock_units.Γ clock_units.A Try.f18 (.pair (.agg (.pair (.lst (.int .u32)) (.lst (.int .u32)))) (.int .i64)) (.pair (.int .u64) .bool) (a0, a1)
noncomputable def clock_units.ent : FnE := .plain (.pair (.agg (.pair (.lst (.int .u32)) (.lst (.int .u32)))) (.int .i64)) (.pair (.int .u64) .bool) true fun x => clock_units.f x.1 x.2
theorem clock_units.f_eq {a0 : (List Int) × List Int} {a1 : Int} : clock_units.f a0 a1 =
    (M.bind (nat_Of.f 86400) fun t1 => (M.bind (nat_Of.f 1) fun t2 => (M.bind (ratio_Of.f t1 t2) fun t3 => (M.bind (nat_Of.f 1) fun t4 => (M.bind (nat_Of.f 1) fun t5 => (M.bind (ratio_Of.f t4 t5) fun t6 => (M.bind (ratio_Mul.f a0 t3.1) fun t7 => (M.bind (ratio_Ratio_Scale.f t7 a1) fun t8 => (M.bind (round_Step.f t8 t6.1) fun t9 => (M.bind (ratio_Ratio_Terms.f t9.1) fun t10 => (M.bind (nat_Nat_Small.f t10.1) fun t11 => (M.ret t11)))))))))))) := by kernel_rfl
/-! ### civil_last -/
noncomputable def civil_last.Γ : Ctx := ⟨tys, fun f => none, globs, eqs⟩
def civil_last.A : Live := fun i => none
noncomputable def civil_last.f (a0 : Int) : M Int := evFn civil_last.Γ civil_last.A Try.f34 (.int .i64) (.int .i64) a0
noncomputable def civil_last.ent : FnE := .plain (.int .i64) (.int .i64) false fun x => civil_last.f x
theorem civil_last.f_eq {a0 : Int} : civil_last.f a0 =
    (if a0 = 0 then (M.ret 2958465) else (if a0 = 1 then (M.ret 2957003) else (M.ret (-1)))) := by kernel_rfl
/-! ### civil_odd -/
noncomputable def civil_odd.Γ : Ctx := ⟨tys, fun f => none, globs, eqs⟩
def civil_odd.A : Live := fun i => none
noncomputable def civil_odd.f (a0 : Int) (a1 : Int) : M ((Int × Int × Int) × Bool) := evFn civil_odd.Γ civil_odd.A Try.f35 (.pair (.int .i64) (.int .i64)) (.pair (.agg (.pair (.int .i64) (.pair (.int .i64) (.int .i64)))) .bool) (a0, a1)
noncomputable def civil_odd.ent : FnE := .plain (.pair (.int .i64) (.int .i64)) (.pair (.agg (.pair (.int .i64) (.pair (.int .i64) (.int .i64)))) .bool) true fun x => civil_odd.f x.1 x.2
theorem civil_odd.f_eq {a0 : Int} {a1 : Int} : civil_odd.f a0 a1 =
    (if a1 ≠ 0 then (M.ret ((0, 0, 0), false)) else (if a0 = 0 then (M.ret ((1900, 1, 0), true)) else (if a0 = 60 then (M.ret ((1900, 2, 29), true)) else (M.ret ((0, 0, 0), false))))) := by kernel_rfl
/-! ### civil_Leap -/
noncomputable def civil_Leap.Γ : Ctx := ⟨tys, fun f => none, globs, eqs⟩
def civil_Leap.A : Live := fun i => none
noncomputable def civil_Leap.f (a0 : Int) : M Bool := evFn civil_Leap.Γ civil_Leap.A Try.f63 (.int .i64) .bool a0
noncomputable def civil_Leap.ent : FnE := .plain (.int .i64) .bool false fun x => civil_Leap.f x
theorem civil_Leap.f_eq {a0 : Int} : civil_Leap.f a0 =
    (if (a0.tmod 4) = 0 then (if (a0.tmod 100) ≠ 0 then (M.ret true) else (M.ret (decide ((a0.tmod 400) = 0)))) else (M.ret false)) := by kernel_rfl
/-! ### civil_Days -/
noncomputable def civil_Days.Γ : Ctx := ⟨tys, fun f => bif Nat.beq f 63 then some civil_Leap.ent else (none), globs, eqs⟩
def civil_Days.A : Live := fun i => none
noncomputable def civil_Days.f (a0 : Int) (a1 : Int) : M Int := evFn civil_Days.Γ civil_Days.A Try.f50 (.pair (.int .i64) (.int .i64)) (.int .i64) (a0, a1)
noncomputable def civil_Days.ent : FnE := .plain (.pair (.int .i64) (.int .i64)) (.int .i64) false fun x => civil_Days.f x.1 x.2
theorem civil_Days.f_eq {a0 : Int} {a1 : Int} : civil_Days.f a0 a1 =
    (if a1 = 2 then (M.bind (civil_Leap.f a0) fun t1 => (if t1 = true then (M.ret 29) else (M.ret 28))) else (if a1 = 4 then (if a1 = 4 then (M.ret 30) else (if a1 < 1 then (M.ret 0) else (if a1 > 12 then (M.ret 0) else (M.ret 31)))) else (if a1 = 6 then (if a1 = 6 then (M.ret 30) else (if a1 < 1 then (M.ret 0) else (if a1 > 12 then (M.ret 0) else (M.ret 31)))) else (if a1 = 9 then (if a1 = 9 then (M.ret 30) else (if a1 < 1 then (M.ret 0) else (if a1 > 12 then (M.ret 0) else (M.ret 31)))) else (if a1 = 11 then (M.ret 30) else (if a1 < 1 then (M.ret 0) else (if a1 > 12 then (M.ret 0) else (M.ret 31)))))))) := by kernel_rfl
/-! ### civil_day -/
noncomputable def civil_day.Γ : Ctx := ⟨tys, fun f => bif Nat.beq f 50 then some civil_Days.ent else (none), globs, eqs⟩
def civil_day.l0.live : List (Nat × LK) := [(2, .box [(.int .i64), (.int .i64), (.int .i64)]), (6, .box [(.int .i64), (.int .i64), (.int .i64)])]
def civil_day.A : Live := fun i => bif Nat.beq i 16 then some civil_day.l0.live else (none)
noncomputable def civil_day.f (a0 : Int) : M (Int × Int × Int) := evFn civil_day.Γ civil_day.A Try.f36 (.int .i64) (.agg (.pair (.int .i64) (.pair (.int .i64) (.int .i64)))) a0
noncomputable def civil_day.ent : FnE := .plain (.int .i64) (.agg (.pair (.int .i64) (.pair (.int .i64) (.int .i64)))) false fun x => civil_day.f x
noncomputable def civil_day.l0.c : Code × Kont (Int × Int × Int) := focus civil_day.Γ civil_day.A (bodyOf Try.f36) (finQ civil_day.Γ Try.f36.results.toList (.agg (.pair (.int .i64) (.pair (.int .i64) (.int .i64))))) [.r, .r, .r, .r, .r, .r, .r, .r, .l, .l]
noncomputable def civil_day.l0 (x2_0 : Int) (x2_1 : Int) (x2_2 : Int) (x6_0 : Int) (x6_1 : Int) (x6_2 : Int) : M (Int × Int × Int) := loopOf civil_day.Γ civil_day.A civil_day.l0.live civil_day.l0.c ((x2_0, x2_1, x2_2), x6_0, x6_1, x6_2)
theorem civil_day.l0_eq {x2_0 : Int} {x2_1 : Int} {x2_2 : Int} {x6_0 : Int} {x6_1 : Int} {x6_2 : Int} :
    roundOf civil_day.Γ civil_day.A civil_day.l0.live civil_day.l0.c (loopOf civil_day.Γ civil_day.A civil_day.l0.live civil_day.l0.c) ((x2_0, x2_1, x2_2), x6_0, x6_1, x6_2) =
    (M.bind (civil_Days.f x6_0 x6_1) fun t1 => (if x6_2 > t1 then (M.bind (civil_Days.f x6_0 x6_1) fun t2 => (civil_day.l0 x2_0 x2_1 x2_2 x6_0 (IntKind.i64.wrap (x6_1 + 1)) (IntKind.i64.wrap (x6_2 - t2)))) else (M.ret (x6_0, x6_1, x6_2)))) := by kernel_rfl
theorem civil_day.f_eq {a0 : Int} : civil_day.f a0 =
    (civil_day.l0 0 0 0 (IntKind.i64.wrap ((IntKind.i64.wrap ((IntKind.i64.wrap ((IntKind.i64.wrap ((IntKind.i64.wrap (400 * (IntKind.i64.wrap (a0.tdiv 146097)))) + (IntKind.i64.wrap (100 * (mnI (IntKind.i64.wrap ((a0.tmod 146097).tdiv 36524)) 3))))) + (IntKind.i64.wrap (4 * (IntKind.i64.wrap ((IntKind.i64.wrap ((a0.tmod 146097) - (IntKind.i64.wrap ((mnI (IntKind.i64.wrap ((a0.tmod 146097).tdiv 36524)) 3) * 36524)))).tdiv 1461)))))) + (mnI (IntKind.i64.wrap (((IntKind.i64.wrap ((a0.tmod 146097) - (IntKind.i64.wrap ((mnI (IntKind.i64.wrap ((a0.tmod 146097).tdiv 36524)) 3) * 36524)))).tmod 1461).tdiv 365)) 3))) + 1)) 1 (IntKind.i64.wrap ((IntKind.i64.wrap (((IntKind.i64.wrap ((a0.tmod 146097) - (IntKind.i64.wrap ((mnI (IntKind.i64.wrap ((a0.tmod 146097).tdiv 36524)) 3) * 36524)))).tmod 1461) - (IntKind.i64.wrap (365 * (mnI (IntKind.i64.wrap (((IntKind.i64.wrap ((a0.tmod 146097) - (IntKind.i64.wrap ((mnI (IntKind.i64.wrap ((a0.tmod 146097).tdiv 36524)) 3) * 36524)))).tmod 1461).tdiv 365)) 3))))) + 1))) := by kernel_rfl
/-! ### civil_ahead -/
noncomputable def civil_ahead.Γ : Ctx := ⟨tys, fun f => none, globs, eqs⟩
def civil_ahead.A : Live := fun i => none
noncomputable def civil_ahead.f (a0 : Int) : M Int := evFn civil_ahead.Γ civil_ahead.A Try.f51 (.int .i64) (.int .i64) a0
noncomputable def civil_ahead.ent : FnE := .plain (.int .i64) (.int .i64) false fun x => civil_ahead.f x
theorem civil_ahead.f_eq {a0 : Int} : civil_ahead.f a0 =
    (M.ret (IntKind.i64.wrap ((IntKind.i64.wrap ((IntKind.i64.wrap ((IntKind.i64.wrap ((IntKind.i64.wrap (a0 - 1)) * 365)) + (IntKind.i64.wrap ((IntKind.i64.wrap (a0 - 1)).tdiv 4)))) - (IntKind.i64.wrap ((IntKind.i64.wrap (a0 - 1)).tdiv 100)))) + (IntKind.i64.wrap ((IntKind.i64.wrap (a0 - 1)).tdiv 400))))) := by kernel_rfl
/-! ### civil_count -/
noncomputable def civil_count.Γ : Ctx := ⟨tys, fun f => bif Nat.beq f 51 then some civil_ahead.ent else (none), globs, eqs⟩
def civil_count.A : Live := fun i => none
noncomputable def civil_count.f (a0 : Int) (a1 : Int) : M Int := evFn civil_count.Γ civil_count.A Try.f37 (.pair (.int .i64) (.int .i64)) (.int .i64) (a0, a1)
noncomputable def civil_count.ent : FnE := .plain (.pair (.int .i64) (.int .i64)) (.int .i64) false fun x => civil_count.f x.1 x.2
theorem civil_count.f_eq {a0 : Int} {a1 : Int} : civil_count.f a0 a1 =
    (if a1 = 1 then (M.bind (civil_ahead.f 1904) fun t1 => (M.ret (IntKind.i64.wrap (t1 + a0)))) else (if a0 > 60 then (M.bind (civil_ahead.f 1900) fun t2 => (M.ret (IntKind.i64.wrap ((IntKind.i64.wrap (t2 + (IntKind.i64.wrap (a0 - 1)))) - 1)))) else (M.bind (civil_ahead.f 1900) fun t3 => (M.ret (IntKind.i64.wrap ((IntKind.i64.wrap (t3 + a0)) - 1)))))) := by kernel_rfl
/-! ### civil_Of -/
noncomputable def civil_Of.Γ : Ctx := ⟨tys, fun f => bif Nat.beq f 34 then some civil_last.ent else (bif Nat.beq f 35 then some civil_odd.ent else (bif Nat.beq f 36 then some civil_day.ent else (bif Nat.beq f 37 then some civil_count.ent else (none)))), globs, eqs⟩
def civil_Of.A : Live := fun i => none
noncomputable def civil_Of.f (a0 : Int) (a1 : Int) : M ((Int × Int × Int) × Bool) := evFn civil_Of.Γ civil_Of.A Try.f20 (.pair (.int .i64) (.int .i64)) (.pair (.agg (.pair (.int .i64) (.pair (.int .i64) (.int .i64)))) .bool) (a0, a1)
noncomputable def civil_Of.ent : FnE := .plain (.pair (.int .i64) (.int .i64)) (.pair (.agg (.pair (.int .i64) (.pair (.int .i64) (.int .i64)))) .bool) true fun x => civil_Of.f x.1 x.2
theorem civil_Of.f_eq {a0 : Int} {a1 : Int} : civil_Of.f a0 a1 =
    (if a0 < 0 then (M.ret ((0, 0, 0), false)) else (M.bind (civil_last.f a1) fun t1 => (if a0 > t1 then (M.ret ((0, 0, 0), false)) else (M.bind (civil_odd.f a0 a1) fun t2 => (if t2.2 = true then (M.ret (t2.1, true)) else (M.bind (civil_count.f a0 a1) fun t3 => (M.bind (civil_day.f t3) fun t4 => (M.ret (t4, true))))))))) := by kernel_rfl
/-! ### clock_Of -/
noncomputable def clock_Of.Γ : Ctx := ⟨tys, fun f => bif Nat.beq f 18 then some clock_units.ent else (bif Nat.beq f 19 then some clock_part.ent else (bif Nat.beq f 20 then some civil_Of.ent else (none))), globs, eqs⟩
def clock_Of.l0.live : List (Nat × LK) := [(2, .val (.int .i64)), (6, .box [(.int .i64), (.int .i64), (.int .i64), (.int .i64), (.int .i64)]), (8, .box [(.int .u64)]), (10, .val (.int .u64)), (30, .val (.int .i64)), (31, .val (.int .i64))]
def clock_Of.A : Live := fun i => bif Nat.beq i 16 then some clock_Of.l0.live else (none)
noncomputable def clock_Of.f (a0 : (List Int) × List Int) (a1 : Int) (a2 : Int) : M ((Int × Int × Int × Int × Int) × Bool) := evFn clock_Of.Γ clock_Of.A Try.f8 (.pair (.agg (.pair (.lst (.int .u32)) (.lst (.int .u32)))) (.pair (.int .i64) (.int .i64))) (.pair (.agg (.pair (.int .i64) (.pair (.int .i64) (.pair (.int .i64) (.pair (.int .i64) (.int .i64)))))) .bool) (a0, a1, a2)
noncomputable def clock_Of.ent : FnE := .plain (.pair (.agg (.pair (.lst (.int .u32)) (.lst (.int .u32)))) (.pair (.int .i64) (.int .i64))) (.pair (.agg (.pair (.int .i64) (.pair (.int .i64) (.pair (.int .i64) (.pair (.int .i64) (.int .i64)))))) .bool) true fun x => clock_Of.f x.1 x.2.1 x.2.2
noncomputable def clock_Of.l0.c : Code × Kont ((Int × Int × Int × Int × Int) × Bool) := focus clock_Of.Γ clock_Of.A (bodyOf Try.f8) (finQ clock_Of.Γ Try.f8.results.toList (.pair (.agg (.pair (.int .i64) (.pair (.int .i64) (.pair (.int .i64) (.pair (.int .i64) (.int .i64)))))) .bool)) [.r, .r, .r, .r, .r, .l, .r, .l]
noncomputable def clock_Of.l0 (x2 : Int) (x6_0 : Int) (x6_1 : Int) (x6_2 : Int) (x6_3 : Int) (x6_4 : Int) (x8 : Int) (x10 : Int) (x30 : Int) (x31 : Int) : M ((Int × Int × Int × Int × Int) × Bool) := loopOf clock_Of.Γ clock_Of.A clock_Of.l0.live clock_Of.l0.c (x2, (x6_0, x6_1, x6_2, x6_3, x6_4), x8, x10, x30, x31)
theorem clock_Of.l0_eq {x2 : Int} {x6_0 : Int} {x6_1 : Int} {x6_2 : Int} {x6_3 : Int} {x6_4 : Int} {x8 : Int} {x10 : Int} {x30 : Int} {x31 : Int} :
    roundOf clock_Of.Γ clock_Of.A clock_Of.l0.live clock_Of.l0.c (loopOf clock_Of.Γ clock_Of.A clock_Of.l0.live clock_Of.l0.c) (x2, (x6_0, x6_1, x6_2, x6_3, x6_4), x8, x10, x30, x31) =
    (if x31 < x30 then (clock_Of.l0 x2 x6_0 x6_1 x6_2 x6_3 x6_4 x8 (IntKind.u64.wrap (x10 * 10)) x30 (IntKind.i64.wrap (x31 + 1))) else (M.bind (clock_part.f x8 x10) fun t1 => (M.bind (clock_part.f t1.2 60) fun t2 => (M.bind (clock_part.f t2.2 60) fun t3 => (M.bind (clock_part.f t3.2 24) fun t4 => (M.bind (civil_Of.f (IntKind.i64.wrap (t4.2)) x2) fun t5 => (if (!t5.2) = true then (M.ret ((0, 0, 0, 0, 0), false)) else (M.ret ((IntKind.i64.wrap (t4.2), t4.1, t3.1, t2.1, t1.1), true))))))))) := by kernel_rfl
theorem clock_Of.f_eq {a0 : (List Int) × List Int} {a1 : Int} {a2 : Int} : clock_Of.f a0 a1 a2 =
    (if a1 < 0 then (M.ret ((0, 0, 0, 0, 0), false)) else (if a1 > 3 then (M.ret ((0, 0, 0, 0, 0), false)) else (M.bind (clock_units.f a0 a1) fun t1 => (if (!t1.2) = true then (M.ret ((0, 0, 0, 0, 0), false)) else (clock_Of.l0 a2 0 0 0 0 0 t1.1 1 a1 0))))) := by kernel_rfl
/-! ### ratio_crossed -/
noncomputable def ratio_crossed.Γ : Ctx := ⟨tys, fun f => bif Nat.beq f 38 then some ratio_Ratio_under.ent else (bif Nat.beq f 39 then some times_Mul.ent else (none)), globs, eqs⟩
def ratio_crossed.A : Live := fun i => none
noncomputable def ratio_crossed.f (a0 : (List Int) × List Int) (a1 : (List Int) × List Int) : M ((List Int) × (List Int) × List Int) := evFn ratio_crossed.Γ ratio_crossed.A Try.f21 (.pair (.agg (.pair (.lst (.int .u32)) (.lst (.int .u32)))) (.agg (.pair (.lst (.int .u32)) (.lst (.int .u32))))) (.pair (.agg (.lst (.int .u32))) (.pair (.agg (.lst (.int .u32))) (.agg (.lst (.int .u32))))) (a0, a1)
noncomputable def ratio_crossed.ent : FnE := .plain (.pair (.agg (.pair (.lst (.int .u32)) (.lst (.int .u32)))) (.agg (.pair (.lst (.int .u32)) (.lst (.int .u32))))) (.pair (.agg (.lst (.int .u32))) (.pair (.agg (.lst (.int .u32))) (.agg (.lst (.int .u32))))) true fun x => ratio_crossed.f x.1 x.2
theorem ratio_crossed.f_eq {a0 : (List Int) × List Int} {a1 : (List Int) × List Int} : ratio_crossed.f a0 a1 =
    (M.bind (ratio_Ratio_under.f a0) fun t1 => (M.bind (ratio_Ratio_under.f a1) fun t2 => (M.bind (times_Mul.f a0.1 t2) fun t3 => (M.bind (times_Mul.f a1.1 t1) fun t4 => (M.bind (times_Mul.f t1 t2) fun t5 => (M.ret (t3, t4, t5))))))) := by kernel_rfl
/-! ### ratio_Add -/
noncomputable def ratio_Add.Γ : Ctx := ⟨tys, fun f => bif Nat.beq f 16 then some ratio_lowest.ent else (bif Nat.beq f 21 then some ratio_crossed.ent else (bif Nat.beq f 22 then some nat_Add.ent else (none))), globs, eqs⟩
def ratio_Add.A : Live := fun i => none
noncomputable def ratio_Add.f (a0 : (List Int) × List Int) (a1 : (List Int) × List Int) : M ((List Int) × List Int) := evFn ratio_Add.Γ ratio_Add.A Try.f9 (.pair (.agg (.pair (.lst (.int .u32)) (.lst (.int .u32)))) (.agg (.pair (.lst (.int .u32)) (.lst (.int .u32))))) (.agg (.pair (.lst (.int .u32)) (.lst (.int .u32)))) (a0, a1)
noncomputable def ratio_Add.ent : FnE := .plain (.pair (.agg (.pair (.lst (.int .u32)) (.lst (.int .u32)))) (.agg (.pair (.lst (.int .u32)) (.lst (.int .u32))))) (.agg (.pair (.lst (.int .u32)) (.lst (.int .u32)))) false fun x => ratio_Add.f x.1 x.2
theorem ratio_Add.f_eq {a0 : (List Int) × List Int} {a1 : (List Int) × List Int} : ratio_Add.f a0 a1 =
    (M.bind (ratio_crossed.f a0 a1) fun t1 => (M.bind (nat_Add.f t1.1 t1.2.1) fun t2 => (M.bind (ratio_lowest.f t2 t1.2.2) fun t3 => (M.ret t3)))) := by kernel_rfl
/-! ### clock_Time_Twelve -/
noncomputable def clock_Time_Twelve.Γ : Ctx := ⟨tys, fun f => none, globs, eqs⟩
def clock_Time_Twelve.A : Live := fun i => none
noncomputable def clock_Time_Twelve.f (a0 : Int × Int × Int × Int × Int) : M (Int × Bool) := evFn clock_Time_Twelve.Γ clock_Time_Twelve.A Try.f12 (.agg (.pair (.int .i64) (.pair (.int .i64) (.pair (.int .i64) (.pair (.int .i64) (.int .i64)))))) (.pair (.int .i64) .bool) a0
noncomputable def clock_Time_Twelve.ent : FnE := .plain (.agg (.pair (.int .i64) (.pair (.int .i64) (.pair (.int .i64) (.pair (.int .i64) (.int .i64)))))) (.pair (.int .i64) .bool) true fun x => clock_Time_Twelve.f x
theorem clock_Time_Twelve.f_eq {a0 : Int × Int × Int × Int × Int} : clock_Time_Twelve.f a0 =
    (if (a0.2.1.tmod 12) = 0 then (M.ret (12, decide (a0.2.1 ≥ 12))) else (M.ret (a0.2.1.tmod 12, decide (a0.2.1 ≥ 12)))) := by kernel_rfl
/-! ### numerarylaw25_wakes -/
noncomputable def numerarylaw25_wakes.Γ : Ctx := ⟨tys, fun f => bif Nat.beq f 6 then some ratio_Of.ent else (bif Nat.beq f 7 then some nat_Of.ent else (bif Nat.beq f 8 then some clock_Of.ent else (bif Nat.beq f 12 then some clock_Time_Twelve.ent else (none)))), globs, eqs⟩
def numerarylaw25_wakes.A : Live := fun i => none
noncomputable def numerarylaw25_wakes.f (_ : Unit) : M Bool := evFn numerarylaw25_wakes.Γ numerarylaw25_wakes.A Try.f10 .nil .bool ()
noncomputable def numerarylaw25_wakes.ent : FnE := .plain .nil .bool false fun x => numerarylaw25_wakes.f ()
theorem numerarylaw25_wakes.f_eq : numerarylaw25_wakes.f () =
    (M.bind (nat_Of.f 3) fun t1 => (M.bind (nat_Of.f 4) fun t2 => (M.bind (ratio_Of.f t1 t2) fun t3 => (M.bind (clock_Of.f t3.1 0 0) fun t4 => (M.bind (nat_Of.f 99999999) fun t5 => (M.bind (nat_Of.f 100000000) fun t6 => (M.bind (ratio_Of.f t5 t6) fun t7 => (M.bind (clock_Of.f t7.1 0 0) fun t8 => (M.bind (clock_Time_Twelve.f t4.1) fun t9 => (if t4.2 = true then (if t4.1.1 = 0 ∧ t4.1.2.1 = 18 ∧ t4.1.2.2.1 = 0 ∧ t4.1.2.2.2.1 = 0 ∧ t4.1.2.2.2.2 = 0 then (if t8.2 = true then (if t8.1.1 = 1 ∧ t8.1.2.1 = 0 ∧ t8.1.2.2.1 = 0 ∧ t8.1.2.2.2.1 = 0 ∧ t8.1.2.2.2.2 = 0 then (if t9.1 = 6 then (M.ret t9.2) else (M.ret false)) else (M.ret false)) else (M.ret false)) else (M.ret false)) else (M.ret false))))))))))) := by kernel_rfl
/-! ### clock_Time_Total -/
noncomputable def clock_Time_Total.Γ : Ctx := ⟨tys, fun f => none, globs, eqs⟩
def clock_Time_Total.A : Live := fun i => none
noncomputable def clock_Time_Total.f (a0 : Int × Int × Int × Int × Int) (a1 : ByteArray) : M (Int × Bool) := evFn clock_Time_Total.Γ clock_Time_Total.A Try.f11 (.pair (.agg (.pair (.int .i64) (.pair (.int .i64) (.pair (.int .i64) (.pair (.int .i64) (.int .i64)))))) .str) (.pair (.int .i64) .bool) (a0, a1)
noncomputable def clock_Time_Total.ent : FnE := .plain (.pair (.agg (.pair (.int .i64) (.pair (.int .i64) (.pair (.int .i64) (.pair (.int .i64) (.int .i64)))))) .str) (.pair (.int .i64) .bool) true fun x => clock_Time_Total.f x.1 x.2
theorem clock_Time_Total.f_eq {a0 : Int × Int × Int × Int × Int} {a1 : ByteArray} : clock_Time_Total.f a0 a1 =
    (if a1 = (⟨#[104]⟩ : ByteArray) then (M.ret (IntKind.i64.wrap ((IntKind.i64.wrap (a0.1 * 24)) + a0.2.1), true)) else (if a1 = (⟨#[109]⟩ : ByteArray) then (M.ret (IntKind.i64.wrap ((IntKind.i64.wrap ((IntKind.i64.wrap ((IntKind.i64.wrap (a0.1 * 24)) + a0.2.1)) * 60)) + a0.2.2.1), true)) else (if a1 = (⟨#[115]⟩ : ByteArray) then (M.ret (IntKind.i64.wrap ((IntKind.i64.wrap ((IntKind.i64.wrap ((IntKind.i64.wrap ((IntKind.i64.wrap ((IntKind.i64.wrap (a0.1 * 24)) + a0.2.1)) * 60)) + a0.2.2.1)) * 60)) + a0.2.2.2.1), true)) else (M.ret (0, false))))) := by kernel_rfl
/-! ### numerarylaw25_ClockTotals -/
noncomputable def numerarylaw25_ClockTotals.Γ : Ctx := ⟨tys, fun f => bif Nat.beq f 6 then some ratio_Of.ent else (bif Nat.beq f 7 then some nat_Of.ent else (bif Nat.beq f 8 then some clock_Of.ent else (bif Nat.beq f 9 then some ratio_Add.ent else (bif Nat.beq f 10 then some numerarylaw25_wakes.ent else (bif Nat.beq f 11 then some clock_Time_Total.ent else (bif Nat.beq f 12 then some clock_Time_Twelve.ent else (none))))))), globs, eqs⟩
def numerarylaw25_ClockTotals.A : Live := fun i => none
noncomputable def numerarylaw25_ClockTotals.f (a0 : Int) (a1 : Int) (a2 : ByteArray) : M Bool := evFn numerarylaw25_ClockTotals.Γ numerarylaw25_ClockTotals.A Try.f3 (.pair (.int .u32) (.pair (.int .u32) .str)) .bool (a0, a1, a2)
noncomputable def numerarylaw25_ClockTotals.ent : FnE := .plain (.pair (.int .u32) (.pair (.int .u32) .str)) .bool false fun x => numerarylaw25_ClockTotals.f x.1 x.2.1 x.2.2
theorem numerarylaw25_ClockTotals.f_eq {a0 : Int} {a1 : Int} {a2 : ByteArray} : numerarylaw25_ClockTotals.f a0 a1 a2 =
    (M.bind (nat_Of.f (IntKind.u64.wrap (a1.tmod 86400))) fun t1 => (M.bind (nat_Of.f 86400) fun t2 => (M.bind (ratio_Of.f t1 t2) fun t3 => (M.bind (nat_Of.f (IntKind.u64.wrap (a0.tmod 2958465))) fun t4 => (M.bind (nat_Of.f 1) fun t5 => (M.bind (ratio_Of.f t4 t5) fun t6 => (M.bind (ratio_Add.f t3.1 t6.1) fun t7 => (M.bind (clock_Of.f t7 0 0) fun t8 => (M.bind (numerarylaw25_wakes.f ()) fun t9 => (if (!t9) = true then (M.ret false) else (if (!t8.2) = true then (M.ret false) else (M.bind (clock_Time_Total.f t8.1 (⟨#[104]⟩ : ByteArray)) fun t10 => (M.bind (clock_Time_Total.f t8.1 (⟨#[109]⟩ : ByteArray)) fun t11 => (M.bind (clock_Time_Total.f t8.1 (⟨#[115]⟩ : ByteArray)) fun t12 => (M.bind (clock_Time_Total.f t8.1 a2) fun t13 => (M.bind (clock_Time_Twelve.f t8.1) fun t14 => (if a2 = (⟨#[104]⟩ : ByteArray) then (if t10.2 = true then (if t11.2 = true then (if t12.2 = true then (if t10.1 = (IntKind.i64.wrap ((IntKind.i64.wrap ((IntKind.i64.wrap ((IntKind.i64.wrap (a0.tmod 2958465)) * 86400)) + (IntKind.i64.wrap (a1.tmod 86400)))).tdiv 3600)) then (if t11.1 = (IntKind.i64.wrap ((IntKind.i64.wrap ((IntKind.i64.wrap ((IntKind.i64.wrap (a0.tmod 2958465)) * 86400)) + (IntKind.i64.wrap (a1.tmod 86400)))).tdiv 60)) then (if t12.1 = (IntKind.i64.wrap ((IntKind.i64.wrap ((IntKind.i64.wrap (a0.tmod 2958465)) * 86400)) + (IntKind.i64.wrap (a1.tmod 86400)))) then (if t13.2 = true then (if t14.2 = (decide ((IntKind.i64.wrap ((IntKind.i64.wrap (a1.tmod 86400)).tdiv 3600)) ≥ 12)) then (if t14.1 ≥ 1 then (if t14.1 ≤ 12 then (M.ret (decide ((t14.1.tmod 12) = ((IntKind.i64.wrap ((IntKind.i64.wrap (a1.tmod 86400)).tdiv 3600)).tmod 12)))) else (M.ret false)) else (M.ret false)) else (M.ret false)) else (M.ret false)) else (M.ret false)) else (M.ret false)) else (M.ret false)) else (M.ret false)) else (M.ret false)) else (M.ret false)) else (if a2 = (⟨#[109]⟩ : ByteArray) then (if t10.2 = true then (if t11.2 = true then (if t12.2 = true then (if t10.1 = (IntKind.i64.wrap ((IntKind.i64.wrap ((IntKind.i64.wrap ((IntKind.i64.wrap (a0.tmod 2958465)) * 86400)) + (IntKind.i64.wrap (a1.tmod 86400)))).tdiv 3600)) then (if t11.1 = (IntKind.i64.wrap ((IntKind.i64.wrap ((IntKind.i64.wrap ((IntKind.i64.wrap (a0.tmod 2958465)) * 86400)) + (IntKind.i64.wrap (a1.tmod 86400)))).tdiv 60)) then (if t12.1 = (IntKind.i64.wrap ((IntKind.i64.wrap ((IntKind.i64.wrap (a0.tmod 2958465)) * 86400)) + (IntKind.i64.wrap (a1.tmod 86400)))) then (if t13.2 = true then (if t14.2 = (decide ((IntKind.i64.wrap ((IntKind.i64.wrap (a1.tmod 86400)).tdiv 3600)) ≥ 12)) then (if t14.1 ≥ 1 then (if t14.1 ≤ 12 then (M.ret (decide ((t14.1.tmod 12) = ((IntKind.i64.wrap ((IntKind.i64.wrap (a1.tmod 86400)).tdiv 3600)).tmod 12)))) else (M.ret false)) else (M.ret false)) else (M.ret false)) else (M.ret false)) else (M.ret false)) else (M.ret false)) else (M.ret false)) else (M.ret false)) else (M.ret false)) else (M.ret false)) else (if t10.2 = true then (if t11.2 = true then (if t12.2 = true then (if t10.1 = (IntKind.i64.wrap ((IntKind.i64.wrap ((IntKind.i64.wrap ((IntKind.i64.wrap (a0.tmod 2958465)) * 86400)) + (IntKind.i64.wrap (a1.tmod 86400)))).tdiv 3600)) then (if t11.1 = (IntKind.i64.wrap ((IntKind.i64.wrap ((IntKind.i64.wrap ((IntKind.i64.wrap (a0.tmod 2958465)) * 86400)) + (IntKind.i64.wrap (a1.tmod 86400)))).tdiv 60)) then (if t12.1 = (IntKind.i64.wrap ((IntKind.i64.wrap ((IntKind.i64.wrap (a0.tmod 2958465)) * 86400)) + (IntKind.i64.wrap (a1.tmod 86400)))) then (if t13.2 = (decide (a2 = (⟨#[115]⟩ : ByteArray))) then (if a2 = (⟨#[115]⟩ : ByteArray) then (if t14.2 = (decide ((IntKind.i64.wrap ((IntKind.i64.wrap (a1.tmod 86400)).tdiv 3600)) ≥ 12)) then (if t14.1 ≥ 1 then (if t14.1 ≤ 12 then (M.ret (decide ((t14.1.tmod 12) = ((IntKind.i64.wrap ((IntKind.i64.wrap (a1.tmod 86400)).tdiv 3600)).tmod 12)))) else (M.ret false)) else (M.ret false)) else (M.ret false)) else (if t13.1 = 0 then (if t14.2 = (decide ((IntKind.i64.wrap ((IntKind.i64.wrap (a1.tmod 86400)).tdiv 3600)) ≥ 12)) then (if t14.1 ≥ 1 then (if t14.1 ≤ 12 then (M.ret (decide ((t14.1.tmod 12) = ((IntKind.i64.wrap ((IntKind.i64.wrap (a1.tmod 86400)).tdiv 3600)).tmod 12)))) else (M.ret false)) else (M.ret false)) else (M.ret false)) else (M.ret false))) else (M.ret false)) else (M.ret false)) else (M.ret false)) else (M.ret false)) else (M.ret false)) else (M.ret false)) else (M.ret false)))))))))))))))))))) := by kernel_rfl
/-! ### ratio_Cmp -/
noncomputable def ratio_Cmp.Γ : Ctx := ⟨tys, fun f => bif Nat.beq f 21 then some ratio_crossed.ent else (bif Nat.beq f 23 then some nat_Cmp.ent else (none)), globs, eqs⟩
def ratio_Cmp.A : Live := fun i => none
noncomputable def ratio_Cmp.f (a0 : (List Int) × List Int) (a1 : (List Int) × List Int) : M Int := evFn ratio_Cmp.Γ ratio_Cmp.A Try.f13 (.pair (.agg (.pair (.lst (.int .u32)) (.lst (.int .u32)))) (.agg (.pair (.lst (.int .u32)) (.lst (.int .u32))))) (.int .i64) (a0, a1)
noncomputable def ratio_Cmp.ent : FnE := .plain (.pair (.agg (.pair (.lst (.int .u32)) (.lst (.int .u32)))) (.agg (.pair (.lst (.int .u32)) (.lst (.int .u32))))) (.int .i64) false fun x => ratio_Cmp.f x.1 x.2
theorem ratio_Cmp.f_eq {a0 : (List Int) × List Int} {a1 : (List Int) × List Int} : ratio_Cmp.f a0 a1 =
    (M.bind (ratio_crossed.f a0 a1) fun t1 => (M.bind (nat_Cmp.f t1.1 t1.2.1) fun t2 => (M.ret t2))) := by kernel_rfl
/-! ### nat_Sub -/
noncomputable def nat_Sub.Γ : Ctx := ⟨tys, fun f => bif Nat.beq f 17 then some nat_Made.ent else (bif Nat.beq f 23 then some nat_Cmp.ent else (bif Nat.beq f 41 then some nat_Nat_at.ent else (bif Nat.beq f 44 then some mbits_Sub32.ent else (none)))), globs, eqs⟩
def nat_Sub.l0.live : List (Nat × LK) := [(2, .box [(.lst (.int .u32))]), (3, .box [(.lst (.int .u32))]), (4, .box [(.lst (.int .u32))]), (6, .own true (.int .u32)), (7, .val (.int .u32)), (19, .val (.int .i64)), (20, .val (.int .i64))]
def nat_Sub.A : Live := fun i => bif Nat.beq i 12 then some nat_Sub.l0.live else (none)
noncomputable def nat_Sub.f (a0 : List Int) (a1 : List Int) : M ((List Int) × Bool) := evFn nat_Sub.Γ nat_Sub.A Try.f24 (.pair (.agg (.lst (.int .u32))) (.agg (.lst (.int .u32)))) (.pair (.agg (.lst (.int .u32))) .bool) (a0, a1)
noncomputable def nat_Sub.ent : FnE := .plain (.pair (.agg (.lst (.int .u32))) (.agg (.lst (.int .u32)))) (.pair (.agg (.lst (.int .u32))) .bool) true fun x => nat_Sub.f x.1 x.2
noncomputable def nat_Sub.l0.c : Code × Kont ((List Int) × Bool) := focus nat_Sub.Γ nat_Sub.A (bodyOf Try.f24) (finQ nat_Sub.Γ Try.f24.results.toList (.pair (.agg (.lst (.int .u32))) .bool)) [.r, .r, .r, .r, .l, .r, .l]
noncomputable def nat_Sub.l0 (x2 : List Int) (x3 : List Int) (x4 : List Int) (x6 : List Int) (x7 : Int) (x19 : Int) (x20 : Int) : M ((List Int) × Bool) := loopOf nat_Sub.Γ nat_Sub.A nat_Sub.l0.live nat_Sub.l0.c (x2, x3, x4, x6, x7, x19, x20)
theorem nat_Sub.l0_eq {x2 : List Int} {x3 : List Int} {x4 : List Int} {x6 : List Int} {x7 : Int} {x19 : Int} {x20 : Int} :
    roundOf nat_Sub.Γ nat_Sub.A nat_Sub.l0.live nat_Sub.l0.c (loopOf nat_Sub.Γ nat_Sub.A nat_Sub.l0.live nat_Sub.l0.c) (x2, x3, x4, x6, x7, x19, x20) =
    (if x20 < x19 then (M.bind (nat_Nat_at.f x2 x20) fun t1 => (M.bind (nat_Nat_at.f x3 x20) fun t2 => (M.bind (mbits_Sub32.f t1 t2 x7) fun t3 => (if 0 ≤ x20 then (if x20 < (x6.length : Int) then (nat_Sub.l0 x2 x3 x4 (x6.set x20.toNat t3.1) t3.2 x19 (IntKind.i64.wrap (x20 + 1))) else M.none) else M.none)))) else (M.bind (nat_Made.f x6) fun t4 => (M.ret (t4, true)))) := by kernel_rfl
theorem nat_Sub.f_eq {a0 : List Int} {a1 : List Int} : nat_Sub.f a0 a1 =
    (M.bind (nat_Cmp.f a0 a1) fun t1 => (if t1 < 0 then (M.ret (([] : List Int), false)) else (if 0 ≤ (a0.length : Int) then (if (a0.length : Int) ≤ 1099511627776 then (nat_Sub.l0 a0 a1 ([] : List Int) (List.replicate (a0.length : Int).toNat (0 : Int)) 0 ((List.replicate (a0.length : Int).toNat (0 : Int)).length : Int) 0) else M.none) else M.none))) := by kernel_rfl
/-! ### ratio_Away -/
noncomputable def ratio_Away.Γ : Ctx := ⟨tys, fun f => bif Nat.beq f 16 then some ratio_lowest.ent else (bif Nat.beq f 21 then some ratio_crossed.ent else (bif Nat.beq f 23 then some nat_Cmp.ent else (bif Nat.beq f 24 then some nat_Sub.ent else (none)))), globs, eqs⟩
def ratio_Away.A : Live := fun i => none
noncomputable def ratio_Away.f (a0 : (List Int) × List Int) (a1 : (List Int) × List Int) : M ((List Int) × List Int) := evFn ratio_Away.Γ ratio_Away.A Try.f14 (.pair (.agg (.pair (.lst (.int .u32)) (.lst (.int .u32)))) (.agg (.pair (.lst (.int .u32)) (.lst (.int .u32))))) (.agg (.pair (.lst (.int .u32)) (.lst (.int .u32)))) (a0, a1)
noncomputable def ratio_Away.ent : FnE := .plain (.pair (.agg (.pair (.lst (.int .u32)) (.lst (.int .u32)))) (.agg (.pair (.lst (.int .u32)) (.lst (.int .u32))))) (.agg (.pair (.lst (.int .u32)) (.lst (.int .u32)))) false fun x => ratio_Away.f x.1 x.2
theorem ratio_Away.f_eq {a0 : (List Int) × List Int} {a1 : (List Int) × List Int} : ratio_Away.f a0 a1 =
    (M.bind (ratio_crossed.f a0 a1) fun t1 => (M.bind (nat_Cmp.f t1.1 t1.2.1) fun t2 => (if t2 < 0 then (M.bind (nat_Sub.f t1.2.1 t1.1) fun t3 => (M.bind (ratio_lowest.f t3.1 t1.2.2) fun t4 => (M.ret t4))) else (M.bind (nat_Sub.f t1.1 t1.2.1) fun t5 => (M.bind (ratio_lowest.f t5.1 t1.2.2) fun t6 => (M.ret t6)))))) := by kernel_rfl
/-! ### numerarylaw25_ClockParts -/
noncomputable def numerarylaw25_ClockParts.Γ : Ctx := ⟨tys, fun f => bif Nat.beq f 6 then some ratio_Of.ent else (bif Nat.beq f 7 then some nat_Of.ent else (bif Nat.beq f 8 then some clock_Of.ent else (bif Nat.beq f 9 then some ratio_Add.ent else (bif Nat.beq f 10 then some numerarylaw25_wakes.ent else (bif Nat.beq f 11 then some clock_Time_Total.ent else (bif Nat.beq f 13 then some ratio_Cmp.ent else (bif Nat.beq f 14 then some ratio_Away.ent else (none)))))))), globs, eqs⟩
def numerarylaw25_ClockParts.l0.live : List (Nat × LK) := [(11, .box [(.lst (.int .u32)), (.lst (.int .u32))]), (12, .box [(.int .i64), (.int .i64), (.int .i64), (.int .i64), (.int .i64)]), (13, .val .bool), (14, .val (.int .i64)), (61, .val (.int .i64)), (62, .val (.int .i64))]
def numerarylaw25_ClockParts.A : Live := fun i => bif Nat.beq i 18 then some numerarylaw25_ClockParts.l0.live else (none)
noncomputable def numerarylaw25_ClockParts.f (a0 : Int × Int × Int × Int) : M Bool := evFn numerarylaw25_ClockParts.Γ numerarylaw25_ClockParts.A Try.f5 (.agg (.pair (.int .u32) (.pair (.int .u64) (.pair (.int .u64) (.int .u8))))) .bool a0
noncomputable def numerarylaw25_ClockParts.ent : FnE := .plain (.agg (.pair (.int .u32) (.pair (.int .u64) (.pair (.int .u64) (.int .u8))))) .bool false fun x => numerarylaw25_ClockParts.f x
noncomputable def numerarylaw25_ClockParts.l0.c : Code × Kont Bool := focus numerarylaw25_ClockParts.Γ numerarylaw25_ClockParts.A (bodyOf Try.f5) (finQ numerarylaw25_ClockParts.Γ Try.f5.results.toList .bool) [.r, .r, .r, .r, .r, .r, .r, .r, .l, .r, .l]
noncomputable def numerarylaw25_ClockParts.l0 (x11_0 : List Int) (x11_1 : List Int) (x12_0 : Int) (x12_1 : Int) (x12_2 : Int) (x12_3 : Int) (x12_4 : Int) (x13 : Bool) (x14 : Int) (x61 : Int) (x62 : Int) : M Bool := loopOf numerarylaw25_ClockParts.Γ numerarylaw25_ClockParts.A numerarylaw25_ClockParts.l0.live numerarylaw25_ClockParts.l0.c ((x11_0, x11_1), (x12_0, x12_1, x12_2, x12_3, x12_4), x13, x14, x61, x62)
theorem numerarylaw25_ClockParts.l0_eq {x11_0 : List Int} {x11_1 : List Int} {x12_0 : Int} {x12_1 : Int} {x12_2 : Int} {x12_3 : Int} {x12_4 : Int} {x13 : Bool} {x14 : Int} {x61 : Int} {x62 : Int} :
    roundOf numerarylaw25_ClockParts.Γ numerarylaw25_ClockParts.A numerarylaw25_ClockParts.l0.live numerarylaw25_ClockParts.l0.c (loopOf numerarylaw25_ClockParts.Γ numerarylaw25_ClockParts.A numerarylaw25_ClockParts.l0.live numerarylaw25_ClockParts.l0.c) ((x11_0, x11_1), (x12_0, x12_1, x12_2, x12_3, x12_4), x13, x14, x61, x62) =
    (if x62 < x61 then (numerarylaw25_ClockParts.l0 x11_0 x11_1 x12_0 x12_1 x12_2 x12_3 x12_4 x13 (IntKind.i64.wrap (x14 * 10)) x61 (IntKind.i64.wrap (x62 + 1))) else (M.bind (numerarylaw25_wakes.f ()) fun t1 => (if (!t1) = true then (M.ret false) else (if (!x13) = true then (M.ret false) else (if x12_4 < 0 then (M.ret false) else (if x12_4 ≥ x14 then (M.ret false) else (if x12_3 < 0 then (M.ret false) else (if x12_3 > 59 then (M.ret false) else (if x12_2 < 0 then (M.ret false) else (if x12_2 > 59 then (M.ret false) else (if x12_1 < 0 then (M.ret false) else (if x12_1 > 23 then (M.ret false) else (if x12_0 < 0 then (M.ret false) else (M.bind (clock_Time_Total.f (x12_0, x12_1, x12_2, x12_3, x12_4) (⟨#[115]⟩ : ByteArray)) fun t2 => (M.bind (nat_Of.f (IntKind.u64.wrap ((IntKind.u64.wrap ((IntKind.u64.wrap (t2.1)) * (IntKind.u64.wrap (x14)))) + (IntKind.u64.wrap (x12_4))))) fun t3 => (M.bind (nat_Of.f (IntKind.u64.wrap (86400 * (IntKind.u64.wrap (x14))))) fun t4 => (M.bind (ratio_Of.f t3 t4) fun t5 => (M.bind (nat_Of.f 1) fun t6 => (M.bind (nat_Of.f (IntKind.u64.wrap (172800 * (IntKind.u64.wrap (x14))))) fun t7 => (M.bind (ratio_Of.f t6 t7) fun t8 => (M.bind (ratio_Away.f t5.1 (x11_0, x11_1)) fun t9 => (M.bind (ratio_Cmp.f t9 t8.1) fun t10 => (if t10 < 0 then (M.ret true) else (if t10 = 0 then (M.bind (ratio_Cmp.f t5.1 (x11_0, x11_1)) fun t11 => (M.ret (decide (t11 > 0)))) else (M.ret false))))))))))))))))))))))))) := by kernel_rfl
theorem numerarylaw25_ClockParts.f_eq {a0 : Int × Int × Int × Int} : numerarylaw25_ClockParts.f a0 =
    (if (mxI 1 a0.2.2.1) ≠ 0 then (M.bind (nat_Of.f (a0.2.1.tmod (mxI 1 a0.2.2.1))) fun t1 => (M.bind (nat_Of.f (mxI 1 a0.2.2.1)) fun t2 => (M.bind (ratio_Of.f t1 t2) fun t3 => (M.bind (nat_Of.f (IntKind.u64.wrap (a0.1.tmod 2958465))) fun t4 => (M.bind (nat_Of.f 1) fun t5 => (M.bind (ratio_Of.f t4 t5) fun t6 => (M.bind (ratio_Add.f t3.1 t6.1) fun t7 => (M.bind (clock_Of.f t7 (IntKind.i64.wrap (a0.2.2.2.tmod 4)) 0) fun t8 => (numerarylaw25_ClockParts.l0 t7.1 t7.2 t8.1.1 t8.1.2.1 t8.1.2.2.1 t8.1.2.2.2.1 t8.1.2.2.2.2 t8.2 1 (IntKind.i64.wrap (a0.2.2.2.tmod 4)) 0))))))))) else M.none) := by kernel_rfl
end Go.Proofs.Yteidggfjcanbjaa.F
