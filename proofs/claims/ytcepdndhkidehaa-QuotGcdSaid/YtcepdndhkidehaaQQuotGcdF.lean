import Derived.Test.YtcepdndhkidehaaQQuotGcdN0
import Derived.Test.YtcepdndhkidehaaProg
import Derived.KernelRfl
namespace Go.Proofs.Ytcepdndhkidehaa.F
open Go Go.Proofs Go.Proofs.Ytcepdndhkidehaa.E
set_option linter.unusedVariables false
def tys : TypeId → TI := tyIf 3 (.int .i64) (tyIf 4 (.bool) (tyIf 5 (.int .u8) (tyIf 9 (.str) (tyIf 22 (.slice 23 (.int .u32) 1 4) (tyIf 23 (.int .u32) (tyIf 25 (.struct [(0, 1)] 1 [.t .nil ()]) (tyIf 28 (.slice 3 (.int .i64) 1 8) (tyIf 38 (.int .u64) (tyIf 62 (.slice 25 (.agg (.lst (.int .u32))) 1 24) (tyIf 79 (.plain) (fun _ => .unk)))))))))))
def eqs : TypeId → Option Ty := fun i => none
def globs : Nat → Option (IntKind × List Int) := fun i => none
/-! ### slices_Clone_uint32_uint32 -/
noncomputable def slices_Clone_uint32_uint32.Γ : Ctx := ⟨tys, fun f => none, globs, eqs⟩
def slices_Clone_uint32_uint32.A : Live := fun i => none
noncomputable def slices_Clone_uint32_uint32.f (a0 : List Int) : M (List Int) := evFn slices_Clone_uint32_uint32.Γ slices_Clone_uint32_uint32.A Try.f48 (.lst (.int .u32)) (.lst (.int .u32)) a0
noncomputable def slices_Clone_uint32_uint32.ent : FnE := .plain (.lst (.int .u32)) (.lst (.int .u32)) false fun x => slices_Clone_uint32_uint32.f x
theorem slices_Clone_uint32_uint32.f_eq {a0 : List Int} : slices_Clone_uint32_uint32.f a0 =
    (M.nq (a0 = []) (M.ret ([] : List Int)) (if ([] : List Int).length + a0.length ≤ 1099511627776 then (M.ret (([] : List Int) ++ a0)) else M.none)) := by kernel_rfl
/-! ### nat_Made -/
noncomputable def nat_Made.Γ : Ctx := ⟨tys, fun f => bif Nat.beq f 48 then some slices_Clone_uint32_uint32.ent else (none), globs, eqs⟩
def nat_Made.l0.live : List (Nat × LK) := [(0, .val (.lst (.int .u32))), (2, .box [(.lst (.int .u32))]), (3, .val (.int .i64))]
def nat_Made.A : Live := fun i => bif Nat.beq i 4 then some nat_Made.l0.live else (none)
noncomputable def nat_Made.f (a0 : List Int) : M (List Int) := evFn nat_Made.Γ nat_Made.A Try.f16 (.lst (.int .u32)) (.agg (.lst (.int .u32))) a0
noncomputable def nat_Made.ent : FnE := .plain (.lst (.int .u32)) (.agg (.lst (.int .u32))) false fun x => nat_Made.f x
noncomputable def nat_Made.l0.c : Code × Kont (List Int) := focus nat_Made.Γ nat_Made.A (bodyOf Try.f16) (finQ nat_Made.Γ Try.f16.results.toList (.agg (.lst (.int .u32)))) [.r, .r, .l, .l]
noncomputable def nat_Made.l0 (x0 : List Int) (x2 : List Int) (x3 : Int) : M (List Int) := loopOf nat_Made.Γ nat_Made.A nat_Made.l0.live nat_Made.l0.c (x0, x2, x3)
theorem nat_Made.l0_eq {x0 : List Int} {x2 : List Int} {x3 : Int} :
    roundOf nat_Made.Γ nat_Made.A nat_Made.l0.live nat_Made.l0.c (loopOf nat_Made.Γ nat_Made.A nat_Made.l0.live nat_Made.l0.c) (x0, x2, x3) =
    (if x3 > 0 then (if 0 ≤ (IntKind.i64.wrap (x3 - 1)) then (if (IntKind.i64.wrap (x3 - 1)) < (x0.length : Int) then (if (rdI x0 (IntKind.i64.wrap (x3 - 1))) = 0 then (nat_Made.l0 x0 x2 (IntKind.i64.wrap (x3 - 1))) else (if 0 ≤ x3 then (if x3 ≤ (x0.length : Int) then (M.bind (slices_Clone_uint32_uint32.f (x0.take x3.toNat)) fun t1 => (M.ret t1)) else M.none) else M.none)) else M.none) else M.none) else (if 0 ≤ x3 then (if x3 ≤ (x0.length : Int) then (M.bind (slices_Clone_uint32_uint32.f (x0.take x3.toNat)) fun t2 => (M.ret t2)) else M.none) else M.none)) := by kernel_rfl
theorem nat_Made.f_eq {a0 : List Int} : nat_Made.f a0 =
    (nat_Made.l0 a0 ([] : List Int) (a0.length : Int)) := by kernel_rfl
/-! ### numeraryref02_at -/
noncomputable def numeraryref02_at.Γ : Ctx := ⟨tys, fun f => none, globs, eqs⟩
def numeraryref02_at.A : Live := fun i => none
noncomputable def numeraryref02_at.f (a0 : List Int) (a1 : Int) : M Int := evFn numeraryref02_at.Γ numeraryref02_at.A Try.f49 (.pair (.lst (.int .i64)) (.int .i64)) (.int .i64) (a0, a1)
noncomputable def numeraryref02_at.ent : FnE := .plain (.pair (.lst (.int .i64)) (.int .i64)) (.int .i64) false fun x => numeraryref02_at.f x.1 x.2
theorem numeraryref02_at.f_eq {a0 : List Int} {a1 : Int} : numeraryref02_at.f a0 a1 =
    (if a1 < (a0.length : Int) then (if 0 ≤ a1 then (if a1 < (a0.length : Int) then (M.ret (rdI a0 a1)) else M.none) else M.none) else (M.ret 0)) := by kernel_rfl
/-! ### numeraryref02_trim -/
noncomputable def numeraryref02_trim.Γ : Ctx := ⟨tys, fun f => none, globs, eqs⟩
def numeraryref02_trim.l0.live : List (Nat × LK) := [(0, .val (.lst (.int .i64))), (3, .val (.int .i64))]
def numeraryref02_trim.A : Live := fun i => bif Nat.beq i 4 then some numeraryref02_trim.l0.live else (none)
noncomputable def numeraryref02_trim.f (a0 : List Int) : M (List Int) := evFn numeraryref02_trim.Γ numeraryref02_trim.A Try.f50 (.lst (.int .i64)) (.lst (.int .i64)) a0
noncomputable def numeraryref02_trim.ent : FnE := .plain (.lst (.int .i64)) (.lst (.int .i64)) false fun x => numeraryref02_trim.f x
noncomputable def numeraryref02_trim.l0.c : Code × Kont (List Int) := focus numeraryref02_trim.Γ numeraryref02_trim.A (bodyOf Try.f50) (finQ numeraryref02_trim.Γ Try.f50.results.toList (.lst (.int .i64))) [.r, .r, .l, .l]
noncomputable def numeraryref02_trim.l0 (x0 : List Int) (x3 : Int) : M (List Int) := loopOf numeraryref02_trim.Γ numeraryref02_trim.A numeraryref02_trim.l0.live numeraryref02_trim.l0.c (x0, x3)
theorem numeraryref02_trim.l0_eq {x0 : List Int} {x3 : Int} :
    roundOf numeraryref02_trim.Γ numeraryref02_trim.A numeraryref02_trim.l0.live numeraryref02_trim.l0.c (loopOf numeraryref02_trim.Γ numeraryref02_trim.A numeraryref02_trim.l0.live numeraryref02_trim.l0.c) (x0, x3) =
    (if x3 > 0 then (if 0 ≤ (IntKind.i64.wrap (x3 - 1)) then (if (IntKind.i64.wrap (x3 - 1)) < (x0.length : Int) then (if (rdI x0 (IntKind.i64.wrap (x3 - 1))) = 0 then (numeraryref02_trim.l0 x0 (IntKind.i64.wrap (x3 - 1))) else (if 0 ≤ x3 then (if x3 ≤ (x0.length : Int) then (M.ret (x0.take x3.toNat)) else M.none) else M.none)) else M.none) else M.none) else (if 0 ≤ x3 then (if x3 ≤ (x0.length : Int) then (M.ret (x0.take x3.toNat)) else M.none) else M.none)) := by kernel_rfl
theorem numeraryref02_trim.f_eq {a0 : List Int} : numeraryref02_trim.f a0 =
    (numeraryref02_trim.l0 a0 (a0.length : Int)) := by kernel_rfl
/-! ### numeraryref02_Times -/
noncomputable def numeraryref02_Times.Γ : Ctx := ⟨tys, fun f => bif Nat.beq f 49 then some numeraryref02_at.ent else (bif Nat.beq f 50 then some numeraryref02_trim.ent else (none)), globs, eqs⟩
def numeraryref02_Times.l0.live : List (Nat × LK) := [(0, .val (.lst (.int .i64))), (1, .val (.int .i64)), (5, .own true (.int .i64)), (6, .val (.int .i64)), (7, .val (.int .i64))]
def numeraryref02_Times.A : Live := fun i => bif Nat.beq i 8 then some numeraryref02_Times.l0.live else (none)
noncomputable def numeraryref02_Times.f (a0 : List Int) (a1 : Int) : M (List Int) := evFn numeraryref02_Times.Γ numeraryref02_Times.A Try.f20 (.pair (.lst (.int .i64)) (.int .i64)) (.lst (.int .i64)) (a0, a1)
noncomputable def numeraryref02_Times.ent : FnE := .plain (.pair (.lst (.int .i64)) (.int .i64)) (.lst (.int .i64)) false fun x => numeraryref02_Times.f x.1 x.2
noncomputable def numeraryref02_Times.l0.c : Code × Kont (List Int) := focus numeraryref02_Times.Γ numeraryref02_Times.A (bodyOf Try.f20) (finQ numeraryref02_Times.Γ Try.f20.results.toList (.lst (.int .i64))) [.r, .r, .r, .l, .r, .l]
noncomputable def numeraryref02_Times.l0 (x0 : List Int) (x1 : Int) (x5 : List Int) (x6 : Int) (x7 : Int) : M (List Int) := loopOf numeraryref02_Times.Γ numeraryref02_Times.A numeraryref02_Times.l0.live numeraryref02_Times.l0.c (x0, x1, x5, x6, x7)
theorem numeraryref02_Times.l0_eq {x0 : List Int} {x1 : Int} {x5 : List Int} {x6 : Int} {x7 : Int} :
    roundOf numeraryref02_Times.Γ numeraryref02_Times.A numeraryref02_Times.l0.live numeraryref02_Times.l0.c (loopOf numeraryref02_Times.Γ numeraryref02_Times.A numeraryref02_Times.l0.live numeraryref02_Times.l0.c) (x0, x1, x5, x6, x7) =
    (if x7 < (x0.length : Int) then (M.bind (numeraryref02_at.f x0 x7) fun t1 => (if x5.length + ([(IntKind.i64.wrap (x6 + (IntKind.i64.wrap (t1 * x1)))).tmod 10] : List Int).length ≤ 1099511627776 then (numeraryref02_Times.l0 x0 x1 (x5 ++ ([(IntKind.i64.wrap (x6 + (IntKind.i64.wrap (t1 * x1)))).tmod 10] : List Int)) (IntKind.i64.wrap ((IntKind.i64.wrap (x6 + (IntKind.i64.wrap (t1 * x1)))).tdiv 10)) (IntKind.i64.wrap (x7 + 1))) else M.none)) else (if x6 > 0 then (M.bind (numeraryref02_at.f x0 x7) fun t2 => (if x5.length + ([(IntKind.i64.wrap (x6 + (IntKind.i64.wrap (t2 * x1)))).tmod 10] : List Int).length ≤ 1099511627776 then (numeraryref02_Times.l0 x0 x1 (x5 ++ ([(IntKind.i64.wrap (x6 + (IntKind.i64.wrap (t2 * x1)))).tmod 10] : List Int)) (IntKind.i64.wrap ((IntKind.i64.wrap (x6 + (IntKind.i64.wrap (t2 * x1)))).tdiv 10)) (IntKind.i64.wrap (x7 + 1))) else M.none)) else (M.bind (numeraryref02_trim.f x5) fun t3 => (M.ret t3)))) := by kernel_rfl
theorem numeraryref02_Times.f_eq {a0 : List Int} {a1 : Int} : numeraryref02_Times.f a0 a1 =
    (numeraryref02_Times.l0 a0 a1 ([] : List Int) 0 0) := by kernel_rfl
/-! ### numeraryref02_Of -/
noncomputable def numeraryref02_Of.Γ : Ctx := ⟨tys, fun f => none, globs, eqs⟩
def numeraryref02_Of.l0.live : List (Nat × LK) := [(0, .val (.int .u64)), (3, .own true (.int .i64))]
def numeraryref02_Of.A : Live := fun i => bif Nat.beq i 4 then some numeraryref02_Of.l0.live else (none)
noncomputable def numeraryref02_Of.f (a0 : Int) : M (List Int) := evFn numeraryref02_Of.Γ numeraryref02_Of.A Try.f27 (.int .u64) (.lst (.int .i64)) a0
noncomputable def numeraryref02_Of.ent : FnE := .plain (.int .u64) (.lst (.int .i64)) false fun x => numeraryref02_Of.f x
noncomputable def numeraryref02_Of.l0.c : Code × Kont (List Int) := focus numeraryref02_Of.Γ numeraryref02_Of.A (bodyOf Try.f27) (finQ numeraryref02_Of.Γ Try.f27.results.toList (.lst (.int .i64))) [.r, .r, .l, .l]
noncomputable def numeraryref02_Of.l0 (x0 : Int) (x3 : List Int) : M (List Int) := loopOf numeraryref02_Of.Γ numeraryref02_Of.A numeraryref02_Of.l0.live numeraryref02_Of.l0.c (x0, x3)
theorem numeraryref02_Of.l0_eq {x0 : Int} {x3 : List Int} :
    roundOf numeraryref02_Of.Γ numeraryref02_Of.A numeraryref02_Of.l0.live numeraryref02_Of.l0.c (loopOf numeraryref02_Of.Γ numeraryref02_Of.A numeraryref02_Of.l0.live numeraryref02_Of.l0.c) (x0, x3) =
    (if x0 > 0 then (if x3.length + ([IntKind.i64.wrap (x0.tmod 10)] : List Int).length ≤ 1099511627776 then (numeraryref02_Of.l0 (IntKind.u64.wrap (x0.tdiv 10)) (x3 ++ ([IntKind.i64.wrap (x0.tmod 10)] : List Int))) else M.none) else (M.ret x3)) := by kernel_rfl
theorem numeraryref02_Of.f_eq {a0 : Int} : numeraryref02_Of.f a0 =
    (numeraryref02_Of.l0 a0 ([] : List Int)) := by kernel_rfl
/-! ### numeraryref02_Add -/
noncomputable def numeraryref02_Add.Γ : Ctx := ⟨tys, fun f => bif Nat.beq f 49 then some numeraryref02_at.ent else (bif Nat.beq f 50 then some numeraryref02_trim.ent else (none)), globs, eqs⟩
def numeraryref02_Add.l0.live : List (Nat × LK) := [(0, .val (.lst (.int .i64))), (1, .val (.lst (.int .i64))), (5, .own true (.int .i64)), (6, .val (.int .i64)), (7, .val (.int .i64))]
def numeraryref02_Add.A : Live := fun i => bif Nat.beq i 8 then some numeraryref02_Add.l0.live else (none)
noncomputable def numeraryref02_Add.f (a0 : List Int) (a1 : List Int) : M (List Int) := evFn numeraryref02_Add.Γ numeraryref02_Add.A Try.f39 (.pair (.lst (.int .i64)) (.lst (.int .i64))) (.lst (.int .i64)) (a0, a1)
noncomputable def numeraryref02_Add.ent : FnE := .plain (.pair (.lst (.int .i64)) (.lst (.int .i64))) (.lst (.int .i64)) false fun x => numeraryref02_Add.f x.1 x.2
noncomputable def numeraryref02_Add.l0.c : Code × Kont (List Int) := focus numeraryref02_Add.Γ numeraryref02_Add.A (bodyOf Try.f39) (finQ numeraryref02_Add.Γ Try.f39.results.toList (.lst (.int .i64))) [.r, .r, .r, .l, .r, .l]
noncomputable def numeraryref02_Add.l0 (x0 : List Int) (x1 : List Int) (x5 : List Int) (x6 : Int) (x7 : Int) : M (List Int) := loopOf numeraryref02_Add.Γ numeraryref02_Add.A numeraryref02_Add.l0.live numeraryref02_Add.l0.c (x0, x1, x5, x6, x7)
theorem numeraryref02_Add.l0_eq {x0 : List Int} {x1 : List Int} {x5 : List Int} {x6 : Int} {x7 : Int} :
    roundOf numeraryref02_Add.Γ numeraryref02_Add.A numeraryref02_Add.l0.live numeraryref02_Add.l0.c (loopOf numeraryref02_Add.Γ numeraryref02_Add.A numeraryref02_Add.l0.live numeraryref02_Add.l0.c) (x0, x1, x5, x6, x7) =
    (if x7 < (x0.length : Int) then (M.bind (numeraryref02_at.f x0 x7) fun t1 => (M.bind (numeraryref02_at.f x1 x7) fun t2 => (if x5.length + ([(IntKind.i64.wrap ((IntKind.i64.wrap (x6 + t1)) + t2)).tmod 10] : List Int).length ≤ 1099511627776 then (numeraryref02_Add.l0 x0 x1 (x5 ++ ([(IntKind.i64.wrap ((IntKind.i64.wrap (x6 + t1)) + t2)).tmod 10] : List Int)) (IntKind.i64.wrap ((IntKind.i64.wrap ((IntKind.i64.wrap (x6 + t1)) + t2)).tdiv 10)) (IntKind.i64.wrap (x7 + 1))) else M.none))) else (if x7 < (x1.length : Int) then (M.bind (numeraryref02_at.f x0 x7) fun t3 => (M.bind (numeraryref02_at.f x1 x7) fun t4 => (if x5.length + ([(IntKind.i64.wrap ((IntKind.i64.wrap (x6 + t3)) + t4)).tmod 10] : List Int).length ≤ 1099511627776 then (numeraryref02_Add.l0 x0 x1 (x5 ++ ([(IntKind.i64.wrap ((IntKind.i64.wrap (x6 + t3)) + t4)).tmod 10] : List Int)) (IntKind.i64.wrap ((IntKind.i64.wrap ((IntKind.i64.wrap (x6 + t3)) + t4)).tdiv 10)) (IntKind.i64.wrap (x7 + 1))) else M.none))) else (if x6 > 0 then (M.bind (numeraryref02_at.f x0 x7) fun t5 => (M.bind (numeraryref02_at.f x1 x7) fun t6 => (if x5.length + ([(IntKind.i64.wrap ((IntKind.i64.wrap (x6 + t5)) + t6)).tmod 10] : List Int).length ≤ 1099511627776 then (numeraryref02_Add.l0 x0 x1 (x5 ++ ([(IntKind.i64.wrap ((IntKind.i64.wrap (x6 + t5)) + t6)).tmod 10] : List Int)) (IntKind.i64.wrap ((IntKind.i64.wrap ((IntKind.i64.wrap (x6 + t5)) + t6)).tdiv 10)) (IntKind.i64.wrap (x7 + 1))) else M.none))) else (M.bind (numeraryref02_trim.f x5) fun t7 => (M.ret t7))))) := by kernel_rfl
theorem numeraryref02_Add.f_eq {a0 : List Int} {a1 : List Int} : numeraryref02_Add.f a0 a1 =
    (numeraryref02_Add.l0 a0 a1 ([] : List Int) 0 0) := by kernel_rfl
/-! ### numeraryref02_Made -/
noncomputable def numeraryref02_Made.Γ : Ctx := ⟨tys, fun f => bif Nat.beq f 20 then some numeraryref02_Times.ent else (bif Nat.beq f 27 then some numeraryref02_Of.ent else (bif Nat.beq f 39 then some numeraryref02_Add.ent else (none))), globs, eqs⟩
def numeraryref02_Made.l0.live : List (Nat × LK) := [(0, .val (.lst (.int .u32))), (3, .val (.lst (.int .i64))), (4, .val (.int .i64))]
def numeraryref02_Made.A : Live := fun i => bif Nat.beq i 6 then some numeraryref02_Made.l0.live else (none)
noncomputable def numeraryref02_Made.f (a0 : List Int) : M (List Int) := evFn numeraryref02_Made.Γ numeraryref02_Made.A Try.f18 (.lst (.int .u32)) (.lst (.int .i64)) a0
noncomputable def numeraryref02_Made.ent : FnE := .plain (.lst (.int .u32)) (.lst (.int .i64)) false fun x => numeraryref02_Made.f x
noncomputable def numeraryref02_Made.l0.c : Code × Kont (List Int) := focus numeraryref02_Made.Γ numeraryref02_Made.A (bodyOf Try.f18) (finQ numeraryref02_Made.Γ Try.f18.results.toList (.lst (.int .i64))) [.r, .r, .l, .r, .l]
noncomputable def numeraryref02_Made.l0 (x0 : List Int) (x3 : List Int) (x4 : Int) : M (List Int) := loopOf numeraryref02_Made.Γ numeraryref02_Made.A numeraryref02_Made.l0.live numeraryref02_Made.l0.c (x0, x3, x4)
theorem numeraryref02_Made.l0_eq {x0 : List Int} {x3 : List Int} {x4 : Int} :
    roundOf numeraryref02_Made.Γ numeraryref02_Made.A numeraryref02_Made.l0.live numeraryref02_Made.l0.c (loopOf numeraryref02_Made.Γ numeraryref02_Made.A numeraryref02_Made.l0.live numeraryref02_Made.l0.c) (x0, x3, x4) =
    (if x4 ≥ 0 then (M.bind (numeraryref02_Times.f x3 4294967296) fun t1 => (if 0 ≤ x4 then (if x4 < (x0.length : Int) then (M.bind (numeraryref02_Of.f (IntKind.u64.wrap (rdI x0 x4))) fun t2 => (M.bind (numeraryref02_Add.f t1 t2) fun t3 => (numeraryref02_Made.l0 x0 t3 (IntKind.i64.wrap (x4 - 1))))) else M.none) else M.none)) else (M.ret x3)) := by kernel_rfl
theorem numeraryref02_Made.f_eq {a0 : List Int} : numeraryref02_Made.f a0 =
    (numeraryref02_Made.l0 a0 ([] : List Int) (IntKind.i64.wrap ((a0.length : Int) - 1))) := by kernel_rfl
/-! ### numeraryref02_Mul -/
noncomputable def numeraryref02_Mul.Γ : Ctx := ⟨tys, fun f => bif Nat.beq f 20 then some numeraryref02_Times.ent else (bif Nat.beq f 39 then some numeraryref02_Add.ent else (none)), globs, eqs⟩
def numeraryref02_Mul.l0.live : List (Nat × LK) := [(0, .val (.lst (.int .i64))), (1, .val (.lst (.int .i64))), (5, .val (.lst (.int .i64))), (6, .val (.int .i64))]
def numeraryref02_Mul.A : Live := fun i => bif Nat.beq i 6 then some numeraryref02_Mul.l0.live else (none)
noncomputable def numeraryref02_Mul.f (a0 : List Int) (a1 : List Int) : M (List Int) := evFn numeraryref02_Mul.Γ numeraryref02_Mul.A Try.f19 (.pair (.lst (.int .i64)) (.lst (.int .i64))) (.lst (.int .i64)) (a0, a1)
noncomputable def numeraryref02_Mul.ent : FnE := .plain (.pair (.lst (.int .i64)) (.lst (.int .i64))) (.lst (.int .i64)) false fun x => numeraryref02_Mul.f x.1 x.2
noncomputable def numeraryref02_Mul.l0.c : Code × Kont (List Int) := focus numeraryref02_Mul.Γ numeraryref02_Mul.A (bodyOf Try.f19) (finQ numeraryref02_Mul.Γ Try.f19.results.toList (.lst (.int .i64))) [.r, .r, .l, .r, .l]
noncomputable def numeraryref02_Mul.l0 (x0 : List Int) (x1 : List Int) (x5 : List Int) (x6 : Int) : M (List Int) := loopOf numeraryref02_Mul.Γ numeraryref02_Mul.A numeraryref02_Mul.l0.live numeraryref02_Mul.l0.c (x0, x1, x5, x6)
theorem numeraryref02_Mul.l0_eq {x0 : List Int} {x1 : List Int} {x5 : List Int} {x6 : Int} :
    roundOf numeraryref02_Mul.Γ numeraryref02_Mul.A numeraryref02_Mul.l0.live numeraryref02_Mul.l0.c (loopOf numeraryref02_Mul.Γ numeraryref02_Mul.A numeraryref02_Mul.l0.live numeraryref02_Mul.l0.c) (x0, x1, x5, x6) =
    (if x6 ≥ 0 then (M.bind (numeraryref02_Times.f x5 10) fun t1 => (if 0 ≤ x6 then (if x6 < (x1.length : Int) then (M.bind (numeraryref02_Times.f x0 (rdI x1 x6)) fun t2 => (M.bind (numeraryref02_Add.f t1 t2) fun t3 => (numeraryref02_Mul.l0 x0 x1 t3 (IntKind.i64.wrap (x6 - 1))))) else M.none) else M.none)) else (M.ret x5)) := by kernel_rfl
theorem numeraryref02_Mul.f_eq {a0 : List Int} {a1 : List Int} : numeraryref02_Mul.f a0 a1 =
    (numeraryref02_Mul.l0 a0 a1 ([] : List Int) (IntKind.i64.wrap ((a1.length : Int) - 1))) := by kernel_rfl
/-! ### nat_Nat_Limbs -/
noncomputable def nat_Nat_Limbs.Γ : Ctx := ⟨tys, fun f => bif Nat.beq f 48 then some slices_Clone_uint32_uint32.ent else (none), globs, eqs⟩
def nat_Nat_Limbs.A : Live := fun i => none
noncomputable def nat_Nat_Limbs.f (a0 : List Int) : M (List Int) := evFn nat_Nat_Limbs.Γ nat_Nat_Limbs.A Try.f31 (.agg (.lst (.int .u32))) (.lst (.int .u32)) a0
noncomputable def nat_Nat_Limbs.ent : FnE := .plain (.agg (.lst (.int .u32))) (.lst (.int .u32)) false fun x => nat_Nat_Limbs.f x
theorem nat_Nat_Limbs.f_eq {a0 : List Int} : nat_Nat_Limbs.f a0 =
    (M.bind (slices_Clone_uint32_uint32.f a0) fun t1 => (M.ret t1)) := by kernel_rfl
/-! ### times_Mul -/
noncomputable def times_Mul.Γ : Ctx := ⟨tys, fun f => bif Nat.beq f 16 then some nat_Made.ent else (bif Nat.beq f 31 then some nat_Nat_Limbs.ent else (none)), globs, eqs⟩
def times_Mul.l0.live : List (Nat × LK) := [(4, .box [(.lst (.int .u32))]), (6, .val (.lst (.int .u32))), (7, .own true (.int .u32)), (23, .val (.lst (.int .u32))), (24, .val (.int .i64)), (25, .val (.int .i64))]
def times_Mul.l1.live : List (Nat × LK) := [(4, .box [(.lst (.int .u32))]), (6, .val (.lst (.int .u32))), (7, .own true (.int .u32)), (8, .val (.int .i64)), (9, .val (.int .u32)), (10, .val (.int .u64)), (23, .val (.lst (.int .u32))), (24, .val (.int .i64)), (25, .val (.int .i64)), (30, .val (.lst (.int .u32))), (31, .val (.int .i64)), (32, .val (.int .i64))]
def times_Mul.A : Live := fun i => bif Nat.beq i 8 then some times_Mul.l0.live else (bif Nat.beq i 16 then some times_Mul.l1.live else (none))
noncomputable def times_Mul.f (a0 : List Int) (a1 : List Int) : M (List Int) := evFn times_Mul.Γ times_Mul.A Try.f24 (.pair (.agg (.lst (.int .u32))) (.agg (.lst (.int .u32)))) (.agg (.lst (.int .u32))) (a0, a1)
noncomputable def times_Mul.ent : FnE := .plain (.pair (.agg (.lst (.int .u32))) (.agg (.lst (.int .u32)))) (.agg (.lst (.int .u32))) false fun x => times_Mul.f x.1 x.2
noncomputable def times_Mul.l0.c : Code × Kont (List Int) := focus times_Mul.Γ times_Mul.A (bodyOf Try.f24) (finQ times_Mul.Γ Try.f24.results.toList (.agg (.lst (.int .u32)))) [.r, .r, .r, .l, .r, .l]
noncomputable def times_Mul.l0 (x4 : List Int) (x6 : List Int) (x7 : List Int) (x23 : List Int) (x24 : Int) (x25 : Int) : M (List Int) := loopOf times_Mul.Γ times_Mul.A times_Mul.l0.live times_Mul.l0.c (x4, x6, x7, x23, x24, x25)
noncomputable def times_Mul.l1.c : Code × Kont (List Int) := focus times_Mul.Γ times_Mul.A (bodyOf Try.f24) (finQ times_Mul.Γ Try.f24.results.toList (.agg (.lst (.int .u32)))) [.r, .r, .r, .l, .r, .l, .l, .r, .r, .l, .l, .r, .r, .l, .r, .l]
noncomputable def times_Mul.l1 (x4 : List Int) (x6 : List Int) (x7 : List Int) (x8 : Int) (x9 : Int) (x10 : Int) (x23 : List Int) (x24 : Int) (x25 : Int) (x30 : List Int) (x31 : Int) (x32 : Int) : M (List Int) := loopOf times_Mul.Γ times_Mul.A times_Mul.l1.live times_Mul.l1.c (x4, x6, x7, x8, x9, x10, x23, x24, x25, x30, x31, x32)
theorem times_Mul.l0_eq {x4 : List Int} {x6 : List Int} {x7 : List Int} {x23 : List Int} {x24 : Int} {x25 : Int} :
    roundOf times_Mul.Γ times_Mul.A times_Mul.l0.live times_Mul.l0.c (loopOf times_Mul.Γ times_Mul.A times_Mul.l0.live times_Mul.l0.c) (x4, x6, x7, x23, x24, x25) =
    (if x25 < x24 then (if 0 ≤ x25 then (if x25 < (x23.length : Int) then (times_Mul.l1 x4 x6 x7 x25 (rdI x23 x25) 0 x23 x24 x25 x6 (x6.length : Int) 0) else M.none) else M.none) else (M.bind (nat_Made.f x7) fun t1 => (M.ret t1))) := by kernel_rfl
theorem times_Mul.l1_eq {x4 : List Int} {x6 : List Int} {x7 : List Int} {x8 : Int} {x9 : Int} {x10 : Int} {x23 : List Int} {x24 : Int} {x25 : Int} {x30 : List Int} {x31 : Int} {x32 : Int} :
    roundOf times_Mul.Γ times_Mul.A times_Mul.l1.live times_Mul.l1.c (loopOf times_Mul.Γ times_Mul.A times_Mul.l1.live times_Mul.l1.c) (x4, x6, x7, x8, x9, x10, x23, x24, x25, x30, x31, x32) =
    (if x32 < x31 then (if 0 ≤ x32 then (if x32 < (x30.length : Int) then (if 0 ≤ (IntKind.i64.wrap (x8 + x32)) then (if (IntKind.i64.wrap (x8 + x32)) < (x7.length : Int) then (if 0 ≤ (IntKind.i64.wrap (x8 + x32)) then (if (IntKind.i64.wrap (x8 + x32)) < (x7.length : Int) then (times_Mul.l1 x4 x6 (x7.set ((IntKind.i64.wrap (x8 + x32)).toNat) (IntKind.u32.wrap (IntKind.u64.wrap (x10 + (IntKind.u64.wrap ((IntKind.u64.wrap ((IntKind.u64.wrap (x9)) * (IntKind.u64.wrap (rdI x30 x32)))) + (IntKind.u64.wrap (x7.getD ((IntKind.i64.wrap (x8 + x32)).toNat) 0)))))))) x8 x9 ((IntKind.u64.wrap (x10 + (IntKind.u64.wrap ((IntKind.u64.wrap ((IntKind.u64.wrap (x9)) * (IntKind.u64.wrap (rdI x30 x32)))) + (IntKind.u64.wrap (x7.getD ((IntKind.i64.wrap (x8 + x32)).toNat) 0)))))).fdiv (2 ^ 32)) x23 x24 x25 x30 x31 (IntKind.i64.wrap (x32 + 1))) else M.none) else M.none) else M.none) else M.none) else M.none) else M.none) else (if 0 ≤ (IntKind.i64.wrap (x8 + (x6.length : Int))) then (if (IntKind.i64.wrap (x8 + (x6.length : Int))) < (x7.length : Int) then (times_Mul.l0 x4 x6 (x7.set ((IntKind.i64.wrap (x8 + (x6.length : Int))).toNat) (IntKind.u32.wrap (x10))) x23 x24 (IntKind.i64.wrap (x25 + 1))) else M.none) else M.none)) := by kernel_rfl
theorem times_Mul.f_eq {a0 : List Int} {a1 : List Int} : times_Mul.f a0 a1 =
    (M.bind (nat_Nat_Limbs.f a0) fun t1 => (M.bind (nat_Nat_Limbs.f a1) fun t2 => (if 0 ≤ (IntKind.i64.wrap ((t1.length : Int) + (t2.length : Int))) then (if (IntKind.i64.wrap ((t1.length : Int) + (t2.length : Int))) ≤ 1099511627776 then (times_Mul.l0 ([] : List Int) t2 (List.replicate (IntKind.i64.wrap ((t1.length : Int) + (t2.length : Int))).toNat (0 : Int)) t1 (t1.length : Int) 0) else M.none) else M.none))) := by kernel_rfl
/-! ### nat_Of -/
noncomputable def nat_Of.Γ : Ctx := ⟨tys, fun f => bif Nat.beq f 16 then some nat_Made.ent else (none), globs, eqs⟩
def nat_Of.A : Live := fun i => none
noncomputable def nat_Of.f (a0 : Int) : M (List Int) := evFn nat_Of.Γ nat_Of.A Try.f26 (.int .u64) (.agg (.lst (.int .u32))) a0
noncomputable def nat_Of.ent : FnE := .plain (.int .u64) (.agg (.lst (.int .u32))) false fun x => nat_Of.f x
theorem nat_Of.f_eq {a0 : Int} : nat_Of.f a0 =
    (M.bind (nat_Made.f ([IntKind.u32.wrap (a0), IntKind.u32.wrap (a0.fdiv (2 ^ 32))] : List Int)) fun t1 => (M.ret t1)) := by kernel_rfl
/-! ### times_All -/
noncomputable def times_All.Γ : Ctx := ⟨tys, fun f => bif Nat.beq f 24 then some times_Mul.ent else (bif Nat.beq f 26 then some nat_Of.ent else (none)), globs, eqs⟩
def times_All.l0.live : List (Nat × LK) := [(2, .box [(.lst (.int .u32))]), (3, .box [(.lst (.int .u32))]), (7, .val (.lst (.agg (.lst (.int .u32))))), (8, .val (.int .i64)), (9, .val (.int .i64))]
def times_All.A : Live := fun i => bif Nat.beq i 6 then some times_All.l0.live else (none)
noncomputable def times_All.f (a0 : List (List Int)) : M (List Int) := evFn times_All.Γ times_All.A Try.f25 (.lst (.agg (.lst (.int .u32)))) (.agg (.lst (.int .u32))) a0
noncomputable def times_All.ent : FnE := .plain (.lst (.agg (.lst (.int .u32)))) (.agg (.lst (.int .u32))) false fun x => times_All.f x
noncomputable def times_All.l0.c : Code × Kont (List Int) := focus times_All.Γ times_All.A (bodyOf Try.f25) (finQ times_All.Γ Try.f25.results.toList (.agg (.lst (.int .u32)))) [.r, .r, .l, .r, .l]
noncomputable def times_All.l0 (x2 : List Int) (x3 : List Int) (x7 : List (List Int)) (x8 : Int) (x9 : Int) : M (List Int) := loopOf times_All.Γ times_All.A times_All.l0.live times_All.l0.c (x2, x3, x7, x8, x9)
theorem times_All.l0_eq {x2 : List Int} {x3 : List Int} {x7 : List (List Int)} {x8 : Int} {x9 : Int} :
    roundOf times_All.Γ times_All.A times_All.l0.live times_All.l0.c (loopOf times_All.Γ times_All.A times_All.l0.live times_All.l0.c) (x2, x3, x7, x8, x9) =
    (if x9 < x8 then (if 0 ≤ x9 then (if x9 < (x7.length : Int) then (M.bind (times_Mul.f x3 (rdT (.agg (.lst (.int .u32))) x7 x9)) fun t1 => (times_All.l0 x2 t1 x7 x8 (IntKind.i64.wrap (x9 + 1)))) else M.none) else M.none) else (M.ret x3)) := by kernel_rfl
theorem times_All.f_eq {a0 : List (List Int)} : times_All.f a0 =
    (M.bind (nat_Of.f 1) fun t1 => (times_All.l0 ([] : List Int) t1 a0 (a0.length : Int) 0)) := by kernel_rfl
/-! ### times_Pow -/
noncomputable def times_Pow.Γ : Ctx := ⟨tys, fun f => bif Nat.beq f 24 then some times_Mul.ent else (bif Nat.beq f 26 then some nat_Of.ent else (none)), globs, eqs⟩
def times_Pow.l0.live : List (Nat × LK) := [(1, .val (.int .i64)), (2, .box [(.lst (.int .u32))]), (4, .box [(.lst (.int .u32))]), (5, .box [(.lst (.int .u32))])]
def times_Pow.A : Live := fun i => bif Nat.beq i 4 then some times_Pow.l0.live else (none)
noncomputable def times_Pow.f (a0 : List Int) (a1 : Int) : M (List Int) := evFn times_Pow.Γ times_Pow.A Try.f28 (.pair (.agg (.lst (.int .u32))) (.int .i64)) (.agg (.lst (.int .u32))) (a0, a1)
noncomputable def times_Pow.ent : FnE := .plain (.pair (.agg (.lst (.int .u32))) (.int .i64)) (.agg (.lst (.int .u32))) false fun x => times_Pow.f x.1 x.2
noncomputable def times_Pow.l0.c : Code × Kont (List Int) := focus times_Pow.Γ times_Pow.A (bodyOf Try.f28) (finQ times_Pow.Γ Try.f28.results.toList (.agg (.lst (.int .u32)))) [.r, .r, .l, .l]
noncomputable def times_Pow.l0 (x1 : Int) (x2 : List Int) (x4 : List Int) (x5 : List Int) : M (List Int) := loopOf times_Pow.Γ times_Pow.A times_Pow.l0.live times_Pow.l0.c (x1, x2, x4, x5)
theorem times_Pow.l0_eq {x1 : Int} {x2 : List Int} {x4 : List Int} {x5 : List Int} :
    roundOf times_Pow.Γ times_Pow.A times_Pow.l0.live times_Pow.l0.c (loopOf times_Pow.Γ times_Pow.A times_Pow.l0.live times_Pow.l0.c) (x1, x2, x4, x5) =
    (if x1 > 0 then (if (IntKind.i64.wrap ((BitVec.ofInt IntKind.i64.bits x1 &&& BitVec.ofInt IntKind.i64.bits 1).toNat)) = 1 then (M.bind (times_Mul.f x5 x2) fun t1 => (if x1 > 1 then (M.bind (times_Mul.f x2 x2) fun t2 => (times_Pow.l0 (x1.fdiv (2 ^ 1)) t2 x4 t1)) else (times_Pow.l0 (x1.fdiv (2 ^ 1)) x2 x4 t1))) else (if x1 > 1 then (M.bind (times_Mul.f x2 x2) fun t3 => (times_Pow.l0 (x1.fdiv (2 ^ 1)) t3 x4 x5)) else (times_Pow.l0 (x1.fdiv (2 ^ 1)) x2 x4 x5))) else (M.ret x5)) := by kernel_rfl
theorem times_Pow.f_eq {a0 : List Int} {a1 : Int} : times_Pow.f a0 a1 =
    (M.bind (nat_Of.f 1) fun t1 => (times_Pow.l0 a1 a0 ([] : List Int) t1)) := by kernel_rfl
/-! ### nat_Nat_Small -/
noncomputable def nat_Nat_Small.Γ : Ctx := ⟨tys, fun f => none, globs, eqs⟩
def nat_Nat_Small.l0.live : List (Nat × LK) := [(4, .val (.int .u64)), (12, .val (.lst (.int .u32))), (13, .val (.int .i64)), (14, .val (.int .i64))]
def nat_Nat_Small.A : Live := fun i => bif Nat.beq i 10 then some nat_Nat_Small.l0.live else (none)
noncomputable def nat_Nat_Small.f (a0 : List Int) : M (Int × Bool) := evFn nat_Nat_Small.Γ nat_Nat_Small.A Try.f29 (.agg (.lst (.int .u32))) (.pair (.int .u64) .bool) a0
noncomputable def nat_Nat_Small.ent : FnE := .plain (.agg (.lst (.int .u32))) (.pair (.int .u64) .bool) true fun x => nat_Nat_Small.f x
noncomputable def nat_Nat_Small.l0.c : Code × Kont (Int × Bool) := focus nat_Nat_Small.Γ nat_Nat_Small.A (bodyOf Try.f29) (finQ nat_Nat_Small.Γ Try.f29.results.toList (.pair (.int .u64) .bool)) [.r, .r, .r, .l, .r, .l]
noncomputable def nat_Nat_Small.l0 (x4 : Int) (x12 : List Int) (x13 : Int) (x14 : Int) : M (Int × Bool) := loopOf nat_Nat_Small.Γ nat_Nat_Small.A nat_Nat_Small.l0.live nat_Nat_Small.l0.c (x4, x12, x13, x14)
theorem nat_Nat_Small.l0_eq {x4 : Int} {x12 : List Int} {x13 : Int} {x14 : Int} :
    roundOf nat_Nat_Small.Γ nat_Nat_Small.A nat_Nat_Small.l0.live nat_Nat_Small.l0.c (loopOf nat_Nat_Small.Γ nat_Nat_Small.A nat_Nat_Small.l0.live nat_Nat_Small.l0.c) (x4, x12, x13, x14) =
    (if x14 < x13 then (if 0 ≤ x14 then (if x14 < (x12.length : Int) then (if 0 ≤ IntKind.i64.wrap (32 * x14) then (nat_Nat_Small.l0 (IntKind.u64.wrap ((BitVec.ofInt IntKind.u64.bits x4 ||| BitVec.ofInt IntKind.u64.bits (IntKind.u64.wrap ((IntKind.u64.wrap (rdI x12 x14)) * 2 ^ (min (IntKind.i64.wrap (32 * x14)).toNat 64)))).toNat)) x12 x13 (IntKind.i64.wrap (x14 + 1))) else M.none) else M.none) else M.none) else (M.ret (x4, true))) := by kernel_rfl
theorem nat_Nat_Small.f_eq {a0 : List Int} : nat_Nat_Small.f a0 =
    (if (a0.length : Int) > 2 then (M.ret (0, false)) else (nat_Nat_Small.l0 0 a0 (a0.length : Int) 0)) := by kernel_rfl
/-! ### numeraryref02_Cmp -/
noncomputable def numeraryref02_Cmp.Γ : Ctx := ⟨tys, fun f => none, globs, eqs⟩
def numeraryref02_Cmp.l0.live : List (Nat × LK) := [(0, .val (.lst (.int .i64))), (1, .val (.lst (.int .i64))), (5, .val (.int .i64))]
def numeraryref02_Cmp.A : Live := fun i => bif Nat.beq i 12 then some numeraryref02_Cmp.l0.live else (none)
noncomputable def numeraryref02_Cmp.f (a0 : List Int) (a1 : List Int) : M Int := evFn numeraryref02_Cmp.Γ numeraryref02_Cmp.A Try.f22 (.pair (.lst (.int .i64)) (.lst (.int .i64))) (.int .i64) (a0, a1)
noncomputable def numeraryref02_Cmp.ent : FnE := .plain (.pair (.lst (.int .i64)) (.lst (.int .i64))) (.int .i64) false fun x => numeraryref02_Cmp.f x.1 x.2
noncomputable def numeraryref02_Cmp.l0.c : Code × Kont Int := focus numeraryref02_Cmp.Γ numeraryref02_Cmp.A (bodyOf Try.f22) (finQ numeraryref02_Cmp.Γ Try.f22.results.toList (.int .i64)) [.r, .r, .l, .r, .l]
noncomputable def numeraryref02_Cmp.l0 (x0 : List Int) (x1 : List Int) (x5 : Int) : M Int := loopOf numeraryref02_Cmp.Γ numeraryref02_Cmp.A numeraryref02_Cmp.l0.live numeraryref02_Cmp.l0.c (x0, x1, x5)
theorem numeraryref02_Cmp.l0_eq {x0 : List Int} {x1 : List Int} {x5 : Int} :
    roundOf numeraryref02_Cmp.Γ numeraryref02_Cmp.A numeraryref02_Cmp.l0.live numeraryref02_Cmp.l0.c (loopOf numeraryref02_Cmp.Γ numeraryref02_Cmp.A numeraryref02_Cmp.l0.live numeraryref02_Cmp.l0.c) (x0, x1, x5) =
    (if x5 ≥ 0 then (if 0 ≤ x5 then (if x5 < (x0.length : Int) then (if 0 ≤ x5 then (if x5 < (x1.length : Int) then (if (rdI x0 x5) < (rdI x1 x5) then (M.ret (-1)) else (if 0 ≤ x5 then (if x5 < (x0.length : Int) then (if 0 ≤ x5 then (if x5 < (x1.length : Int) then (if (rdI x0 x5) > (rdI x1 x5) then (M.ret 1) else (numeraryref02_Cmp.l0 x0 x1 (IntKind.i64.wrap (x5 - 1)))) else M.none) else M.none) else M.none) else M.none)) else M.none) else M.none) else M.none) else M.none) else (M.ret 0)) := by kernel_rfl
theorem numeraryref02_Cmp.f_eq {a0 : List Int} {a1 : List Int} : numeraryref02_Cmp.f a0 a1 =
    (if (a0.length : Int) ≠ (a1.length : Int) then (if (a0.length : Int) < (a1.length : Int) then (M.ret (-1)) else (M.ret 1)) else (numeraryref02_Cmp.l0 a0 a1 (IntKind.i64.wrap ((a0.length : Int) - 1)))) := by kernel_rfl
/-! ### mbits_Len32 -/
noncomputable def mbits_Len32.Γ : Ctx := ⟨tys, fun f => none, globs, eqs⟩
def mbits_Len32.A : Live := fun i => none
noncomputable def mbits_Len32.f (a0 : Int) : M Int := evFn mbits_Len32.Γ mbits_Len32.A Try.f51 (.int .u32) (.int .i64) a0
noncomputable def mbits_Len32.ent : FnE := .plain (.int .u32) (.int .i64) false fun x => mbits_Len32.f x
theorem mbits_Len32.f_eq {a0 : Int} : mbits_Len32.f a0 =
    (if a0 ≥ 65536 then (if (a0.fdiv (2 ^ 16)) ≥ 256 then (if 0 ≤ (IntKind.u8.wrap ((a0.fdiv (2 ^ 16)).fdiv (2 ^ 8))) then (if (IntKind.u8.wrap ((a0.fdiv (2 ^ 16)).fdiv (2 ^ 8))) < ((⟨#[0, 1, 2, 2, 3, 3, 3, 3, 4, 4, 4, 4, 4, 4, 4, 4, 5, 5, 5, 5, 5, 5, 5, 5, 5, 5, 5, 5, 5, 5, 5, 5, 6, 6, 6, 6, 6, 6, 6, 6, 6, 6, 6, 6, 6, 6, 6, 6, 6, 6, 6, 6, 6, 6, 6, 6, 6, 6, 6, 6, 6, 6, 6, 6, 7, 7, 7, 7, 7, 7, 7, 7, 7, 7, 7, 7, 7, 7, 7, 7, 7, 7, 7, 7, 7, 7, 7, 7, 7, 7, 7, 7, 7, 7, 7, 7, 7, 7, 7, 7, 7, 7, 7, 7, 7, 7, 7, 7, 7, 7, 7, 7, 7, 7, 7, 7, 7, 7, 7, 7, 7, 7, 7, 7, 7, 7, 7, 7, 8, 8, 8, 8, 8, 8, 8, 8, 8, 8, 8, 8, 8, 8, 8, 8, 8, 8, 8, 8, 8, 8, 8, 8, 8, 8, 8, 8, 8, 8, 8, 8, 8, 8, 8, 8, 8, 8, 8, 8, 8, 8, 8, 8, 8, 8, 8, 8, 8, 8, 8, 8, 8, 8, 8, 8, 8, 8, 8, 8, 8, 8, 8, 8, 8, 8, 8, 8, 8, 8, 8, 8, 8, 8, 8, 8, 8, 8, 8, 8, 8, 8, 8, 8, 8, 8, 8, 8, 8, 8, 8, 8, 8, 8, 8, 8, 8, 8, 8, 8, 8, 8, 8, 8, 8, 8, 8, 8, 8, 8, 8, 8, 8, 8, 8, 8, 8, 8, 8, 8, 8, 8, 8, 8, 8, 8, 8, 8]⟩ : ByteArray).size : Int) then (M.ret (IntKind.i64.wrap ((IntKind.i64.wrap (16 + 8)) + (IntKind.i64.wrap (byteAt (⟨#[0, 1, 2, 2, 3, 3, 3, 3, 4, 4, 4, 4, 4, 4, 4, 4, 5, 5, 5, 5, 5, 5, 5, 5, 5, 5, 5, 5, 5, 5, 5, 5, 6, 6, 6, 6, 6, 6, 6, 6, 6, 6, 6, 6, 6, 6, 6, 6, 6, 6, 6, 6, 6, 6, 6, 6, 6, 6, 6, 6, 6, 6, 6, 6, 7, 7, 7, 7, 7, 7, 7, 7, 7, 7, 7, 7, 7, 7, 7, 7, 7, 7, 7, 7, 7, 7, 7, 7, 7, 7, 7, 7, 7, 7, 7, 7, 7, 7, 7, 7, 7, 7, 7, 7, 7, 7, 7, 7, 7, 7, 7, 7, 7, 7, 7, 7, 7, 7, 7, 7, 7, 7, 7, 7, 7, 7, 7, 7, 8, 8, 8, 8, 8, 8, 8, 8, 8, 8, 8, 8, 8, 8, 8, 8, 8, 8, 8, 8, 8, 8, 8, 8, 8, 8, 8, 8, 8, 8, 8, 8, 8, 8, 8, 8, 8, 8, 8, 8, 8, 8, 8, 8, 8, 8, 8, 8, 8, 8, 8, 8, 8, 8, 8, 8, 8, 8, 8, 8, 8, 8, 8, 8, 8, 8, 8, 8, 8, 8, 8, 8, 8, 8, 8, 8, 8, 8, 8, 8, 8, 8, 8, 8, 8, 8, 8, 8, 8, 8, 8, 8, 8, 8, 8, 8, 8, 8, 8, 8, 8, 8, 8, 8, 8, 8, 8, 8, 8, 8, 8, 8, 8, 8, 8, 8, 8, 8, 8, 8, 8, 8, 8, 8, 8, 8, 8, 8]⟩ : ByteArray) (IntKind.u8.wrap ((a0.fdiv (2 ^ 16)).fdiv (2 ^ 8)))))))) else M.none) else M.none) else (if 0 ≤ (IntKind.u8.wrap (a0.fdiv (2 ^ 16))) then (if (IntKind.u8.wrap (a0.fdiv (2 ^ 16))) < ((⟨#[0, 1, 2, 2, 3, 3, 3, 3, 4, 4, 4, 4, 4, 4, 4, 4, 5, 5, 5, 5, 5, 5, 5, 5, 5, 5, 5, 5, 5, 5, 5, 5, 6, 6, 6, 6, 6, 6, 6, 6, 6, 6, 6, 6, 6, 6, 6, 6, 6, 6, 6, 6, 6, 6, 6, 6, 6, 6, 6, 6, 6, 6, 6, 6, 7, 7, 7, 7, 7, 7, 7, 7, 7, 7, 7, 7, 7, 7, 7, 7, 7, 7, 7, 7, 7, 7, 7, 7, 7, 7, 7, 7, 7, 7, 7, 7, 7, 7, 7, 7, 7, 7, 7, 7, 7, 7, 7, 7, 7, 7, 7, 7, 7, 7, 7, 7, 7, 7, 7, 7, 7, 7, 7, 7, 7, 7, 7, 7, 8, 8, 8, 8, 8, 8, 8, 8, 8, 8, 8, 8, 8, 8, 8, 8, 8, 8, 8, 8, 8, 8, 8, 8, 8, 8, 8, 8, 8, 8, 8, 8, 8, 8, 8, 8, 8, 8, 8, 8, 8, 8, 8, 8, 8, 8, 8, 8, 8, 8, 8, 8, 8, 8, 8, 8, 8, 8, 8, 8, 8, 8, 8, 8, 8, 8, 8, 8, 8, 8, 8, 8, 8, 8, 8, 8, 8, 8, 8, 8, 8, 8, 8, 8, 8, 8, 8, 8, 8, 8, 8, 8, 8, 8, 8, 8, 8, 8, 8, 8, 8, 8, 8, 8, 8, 8, 8, 8, 8, 8, 8, 8, 8, 8, 8, 8, 8, 8, 8, 8, 8, 8, 8, 8, 8, 8, 8, 8]⟩ : ByteArray).size : Int) then (M.ret (IntKind.i64.wrap (16 + (IntKind.i64.wrap (byteAt (⟨#[0, 1, 2, 2, 3, 3, 3, 3, 4, 4, 4, 4, 4, 4, 4, 4, 5, 5, 5, 5, 5, 5, 5, 5, 5, 5, 5, 5, 5, 5, 5, 5, 6, 6, 6, 6, 6, 6, 6, 6, 6, 6, 6, 6, 6, 6, 6, 6, 6, 6, 6, 6, 6, 6, 6, 6, 6, 6, 6, 6, 6, 6, 6, 6, 7, 7, 7, 7, 7, 7, 7, 7, 7, 7, 7, 7, 7, 7, 7, 7, 7, 7, 7, 7, 7, 7, 7, 7, 7, 7, 7, 7, 7, 7, 7, 7, 7, 7, 7, 7, 7, 7, 7, 7, 7, 7, 7, 7, 7, 7, 7, 7, 7, 7, 7, 7, 7, 7, 7, 7, 7, 7, 7, 7, 7, 7, 7, 7, 8, 8, 8, 8, 8, 8, 8, 8, 8, 8, 8, 8, 8, 8, 8, 8, 8, 8, 8, 8, 8, 8, 8, 8, 8, 8, 8, 8, 8, 8, 8, 8, 8, 8, 8, 8, 8, 8, 8, 8, 8, 8, 8, 8, 8, 8, 8, 8, 8, 8, 8, 8, 8, 8, 8, 8, 8, 8, 8, 8, 8, 8, 8, 8, 8, 8, 8, 8, 8, 8, 8, 8, 8, 8, 8, 8, 8, 8, 8, 8, 8, 8, 8, 8, 8, 8, 8, 8, 8, 8, 8, 8, 8, 8, 8, 8, 8, 8, 8, 8, 8, 8, 8, 8, 8, 8, 8, 8, 8, 8, 8, 8, 8, 8, 8, 8, 8, 8, 8, 8, 8, 8, 8, 8, 8, 8, 8, 8]⟩ : ByteArray) (IntKind.u8.wrap (a0.fdiv (2 ^ 16)))))))) else M.none) else M.none)) else (if a0 ≥ 256 then (if 0 ≤ (IntKind.u8.wrap (a0.fdiv (2 ^ 8))) then (if (IntKind.u8.wrap (a0.fdiv (2 ^ 8))) < ((⟨#[0, 1, 2, 2, 3, 3, 3, 3, 4, 4, 4, 4, 4, 4, 4, 4, 5, 5, 5, 5, 5, 5, 5, 5, 5, 5, 5, 5, 5, 5, 5, 5, 6, 6, 6, 6, 6, 6, 6, 6, 6, 6, 6, 6, 6, 6, 6, 6, 6, 6, 6, 6, 6, 6, 6, 6, 6, 6, 6, 6, 6, 6, 6, 6, 7, 7, 7, 7, 7, 7, 7, 7, 7, 7, 7, 7, 7, 7, 7, 7, 7, 7, 7, 7, 7, 7, 7, 7, 7, 7, 7, 7, 7, 7, 7, 7, 7, 7, 7, 7, 7, 7, 7, 7, 7, 7, 7, 7, 7, 7, 7, 7, 7, 7, 7, 7, 7, 7, 7, 7, 7, 7, 7, 7, 7, 7, 7, 7, 8, 8, 8, 8, 8, 8, 8, 8, 8, 8, 8, 8, 8, 8, 8, 8, 8, 8, 8, 8, 8, 8, 8, 8, 8, 8, 8, 8, 8, 8, 8, 8, 8, 8, 8, 8, 8, 8, 8, 8, 8, 8, 8, 8, 8, 8, 8, 8, 8, 8, 8, 8, 8, 8, 8, 8, 8, 8, 8, 8, 8, 8, 8, 8, 8, 8, 8, 8, 8, 8, 8, 8, 8, 8, 8, 8, 8, 8, 8, 8, 8, 8, 8, 8, 8, 8, 8, 8, 8, 8, 8, 8, 8, 8, 8, 8, 8, 8, 8, 8, 8, 8, 8, 8, 8, 8, 8, 8, 8, 8, 8, 8, 8, 8, 8, 8, 8, 8, 8, 8, 8, 8, 8, 8, 8, 8, 8, 8]⟩ : ByteArray).size : Int) then (M.ret (IntKind.i64.wrap ((IntKind.i64.wrap (0 + 8)) + (IntKind.i64.wrap (byteAt (⟨#[0, 1, 2, 2, 3, 3, 3, 3, 4, 4, 4, 4, 4, 4, 4, 4, 5, 5, 5, 5, 5, 5, 5, 5, 5, 5, 5, 5, 5, 5, 5, 5, 6, 6, 6, 6, 6, 6, 6, 6, 6, 6, 6, 6, 6, 6, 6, 6, 6, 6, 6, 6, 6, 6, 6, 6, 6, 6, 6, 6, 6, 6, 6, 6, 7, 7, 7, 7, 7, 7, 7, 7, 7, 7, 7, 7, 7, 7, 7, 7, 7, 7, 7, 7, 7, 7, 7, 7, 7, 7, 7, 7, 7, 7, 7, 7, 7, 7, 7, 7, 7, 7, 7, 7, 7, 7, 7, 7, 7, 7, 7, 7, 7, 7, 7, 7, 7, 7, 7, 7, 7, 7, 7, 7, 7, 7, 7, 7, 8, 8, 8, 8, 8, 8, 8, 8, 8, 8, 8, 8, 8, 8, 8, 8, 8, 8, 8, 8, 8, 8, 8, 8, 8, 8, 8, 8, 8, 8, 8, 8, 8, 8, 8, 8, 8, 8, 8, 8, 8, 8, 8, 8, 8, 8, 8, 8, 8, 8, 8, 8, 8, 8, 8, 8, 8, 8, 8, 8, 8, 8, 8, 8, 8, 8, 8, 8, 8, 8, 8, 8, 8, 8, 8, 8, 8, 8, 8, 8, 8, 8, 8, 8, 8, 8, 8, 8, 8, 8, 8, 8, 8, 8, 8, 8, 8, 8, 8, 8, 8, 8, 8, 8, 8, 8, 8, 8, 8, 8, 8, 8, 8, 8, 8, 8, 8, 8, 8, 8, 8, 8, 8, 8, 8, 8, 8, 8]⟩ : ByteArray) (IntKind.u8.wrap (a0.fdiv (2 ^ 8)))))))) else M.none) else M.none) else (if 0 ≤ (IntKind.u8.wrap (a0)) then (if (IntKind.u8.wrap (a0)) < ((⟨#[0, 1, 2, 2, 3, 3, 3, 3, 4, 4, 4, 4, 4, 4, 4, 4, 5, 5, 5, 5, 5, 5, 5, 5, 5, 5, 5, 5, 5, 5, 5, 5, 6, 6, 6, 6, 6, 6, 6, 6, 6, 6, 6, 6, 6, 6, 6, 6, 6, 6, 6, 6, 6, 6, 6, 6, 6, 6, 6, 6, 6, 6, 6, 6, 7, 7, 7, 7, 7, 7, 7, 7, 7, 7, 7, 7, 7, 7, 7, 7, 7, 7, 7, 7, 7, 7, 7, 7, 7, 7, 7, 7, 7, 7, 7, 7, 7, 7, 7, 7, 7, 7, 7, 7, 7, 7, 7, 7, 7, 7, 7, 7, 7, 7, 7, 7, 7, 7, 7, 7, 7, 7, 7, 7, 7, 7, 7, 7, 8, 8, 8, 8, 8, 8, 8, 8, 8, 8, 8, 8, 8, 8, 8, 8, 8, 8, 8, 8, 8, 8, 8, 8, 8, 8, 8, 8, 8, 8, 8, 8, 8, 8, 8, 8, 8, 8, 8, 8, 8, 8, 8, 8, 8, 8, 8, 8, 8, 8, 8, 8, 8, 8, 8, 8, 8, 8, 8, 8, 8, 8, 8, 8, 8, 8, 8, 8, 8, 8, 8, 8, 8, 8, 8, 8, 8, 8, 8, 8, 8, 8, 8, 8, 8, 8, 8, 8, 8, 8, 8, 8, 8, 8, 8, 8, 8, 8, 8, 8, 8, 8, 8, 8, 8, 8, 8, 8, 8, 8, 8, 8, 8, 8, 8, 8, 8, 8, 8, 8, 8, 8, 8, 8, 8, 8, 8, 8]⟩ : ByteArray).size : Int) then (M.ret (IntKind.i64.wrap (0 + (IntKind.i64.wrap (byteAt (⟨#[0, 1, 2, 2, 3, 3, 3, 3, 4, 4, 4, 4, 4, 4, 4, 4, 5, 5, 5, 5, 5, 5, 5, 5, 5, 5, 5, 5, 5, 5, 5, 5, 6, 6, 6, 6, 6, 6, 6, 6, 6, 6, 6, 6, 6, 6, 6, 6, 6, 6, 6, 6, 6, 6, 6, 6, 6, 6, 6, 6, 6, 6, 6, 6, 7, 7, 7, 7, 7, 7, 7, 7, 7, 7, 7, 7, 7, 7, 7, 7, 7, 7, 7, 7, 7, 7, 7, 7, 7, 7, 7, 7, 7, 7, 7, 7, 7, 7, 7, 7, 7, 7, 7, 7, 7, 7, 7, 7, 7, 7, 7, 7, 7, 7, 7, 7, 7, 7, 7, 7, 7, 7, 7, 7, 7, 7, 7, 7, 8, 8, 8, 8, 8, 8, 8, 8, 8, 8, 8, 8, 8, 8, 8, 8, 8, 8, 8, 8, 8, 8, 8, 8, 8, 8, 8, 8, 8, 8, 8, 8, 8, 8, 8, 8, 8, 8, 8, 8, 8, 8, 8, 8, 8, 8, 8, 8, 8, 8, 8, 8, 8, 8, 8, 8, 8, 8, 8, 8, 8, 8, 8, 8, 8, 8, 8, 8, 8, 8, 8, 8, 8, 8, 8, 8, 8, 8, 8, 8, 8, 8, 8, 8, 8, 8, 8, 8, 8, 8, 8, 8, 8, 8, 8, 8, 8, 8, 8, 8, 8, 8, 8, 8, 8, 8, 8, 8, 8, 8, 8, 8, 8, 8, 8, 8, 8, 8, 8, 8, 8, 8, 8, 8, 8, 8, 8, 8]⟩ : ByteArray) (IntKind.u8.wrap (a0))))))) else M.none) else M.none))) := by kernel_rfl
/-! ### nat_Nat_Bits -/
noncomputable def nat_Nat_Bits.Γ : Ctx := ⟨tys, fun f => bif Nat.beq f 51 then some mbits_Len32.ent else (none), globs, eqs⟩
def nat_Nat_Bits.A : Live := fun i => none
noncomputable def nat_Nat_Bits.f (a0 : List Int) : M Int := evFn nat_Nat_Bits.Γ nat_Nat_Bits.A Try.f33 (.agg (.lst (.int .u32))) (.int .i64) a0
noncomputable def nat_Nat_Bits.ent : FnE := .plain (.agg (.lst (.int .u32))) (.int .i64) false fun x => nat_Nat_Bits.f x
theorem nat_Nat_Bits.f_eq {a0 : List Int} : nat_Nat_Bits.f a0 =
    (if (a0.length : Int) = 0 then (M.ret 0) else (if 0 ≤ (IntKind.i64.wrap ((a0.length : Int) - 1)) then (if (IntKind.i64.wrap ((a0.length : Int) - 1)) < (a0.length : Int) then (M.bind (mbits_Len32.f (rdI a0 (IntKind.i64.wrap ((a0.length : Int) - 1)))) fun t1 => (M.ret (IntKind.i64.wrap ((IntKind.i64.wrap (32 * (IntKind.i64.wrap ((a0.length : Int) - 1)))) + t1)))) else M.none) else M.none)) := by kernel_rfl
/-! ### cmp_isNaN_int -/
noncomputable def cmp_isNaN_int.Γ : Ctx := ⟨tys, fun f => none, globs, eqs⟩
def cmp_isNaN_int.A : Live := fun i => none
noncomputable def cmp_isNaN_int.f (a0 : Int) : M Bool := evFn cmp_isNaN_int.Γ cmp_isNaN_int.A Try.f59 (.int .i64) .bool a0
noncomputable def cmp_isNaN_int.ent : FnE := .plain (.int .i64) .bool false fun x => cmp_isNaN_int.f x
theorem cmp_isNaN_int.f_eq {a0 : Int} : cmp_isNaN_int.f a0 =
    (M.ret (decide (a0 ≠ a0))) := by kernel_rfl
/-! ### cmp_Compare_int -/
noncomputable def cmp_Compare_int.Γ : Ctx := ⟨tys, fun f => bif Nat.beq f 59 then some cmp_isNaN_int.ent else (none), globs, eqs⟩
def cmp_Compare_int.A : Live := fun i => none
noncomputable def cmp_Compare_int.f (a0 : Int) (a1 : Int) : M Int := evFn cmp_Compare_int.Γ cmp_Compare_int.A Try.f54 (.pair (.int .i64) (.int .i64)) (.int .i64) (a0, a1)
noncomputable def cmp_Compare_int.ent : FnE := .plain (.pair (.int .i64) (.int .i64)) (.int .i64) false fun x => cmp_Compare_int.f x.1 x.2
theorem cmp_Compare_int.f_eq {a0 : Int} {a1 : Int} : cmp_Compare_int.f a0 a1 =
    (M.bind (cmp_isNaN_int.f a0) fun t1 => (M.bind (cmp_isNaN_int.f a1) fun t2 => (if t1 = true then (if t2 = true then (M.ret 0) else (M.ret (-1))) else (if t2 = true then (M.ret 1) else (if a0 < a1 then (M.ret (-1)) else (if a0 > a1 then (M.ret 1) else (M.ret 0))))))) := by kernel_rfl
/-! ### cmp_isNaN_uint32 -/
noncomputable def cmp_isNaN_uint32.Γ : Ctx := ⟨tys, fun f => none, globs, eqs⟩
def cmp_isNaN_uint32.A : Live := fun i => none
noncomputable def cmp_isNaN_uint32.f (a0 : Int) : M Bool := evFn cmp_isNaN_uint32.Γ cmp_isNaN_uint32.A Try.f60 (.int .u32) .bool a0
noncomputable def cmp_isNaN_uint32.ent : FnE := .plain (.int .u32) .bool false fun x => cmp_isNaN_uint32.f x
theorem cmp_isNaN_uint32.f_eq {a0 : Int} : cmp_isNaN_uint32.f a0 =
    (M.ret (decide (a0 ≠ a0))) := by kernel_rfl
/-! ### cmp_Compare_uint32 -/
noncomputable def cmp_Compare_uint32.Γ : Ctx := ⟨tys, fun f => bif Nat.beq f 60 then some cmp_isNaN_uint32.ent else (none), globs, eqs⟩
def cmp_Compare_uint32.A : Live := fun i => none
noncomputable def cmp_Compare_uint32.f (a0 : Int) (a1 : Int) : M Int := evFn cmp_Compare_uint32.Γ cmp_Compare_uint32.A Try.f55 (.pair (.int .u32) (.int .u32)) (.int .i64) (a0, a1)
noncomputable def cmp_Compare_uint32.ent : FnE := .plain (.pair (.int .u32) (.int .u32)) (.int .i64) false fun x => cmp_Compare_uint32.f x.1 x.2
theorem cmp_Compare_uint32.f_eq {a0 : Int} {a1 : Int} : cmp_Compare_uint32.f a0 a1 =
    (M.bind (cmp_isNaN_uint32.f a0) fun t1 => (M.bind (cmp_isNaN_uint32.f a1) fun t2 => (if t1 = true then (if t2 = true then (M.ret 0) else (M.ret (-1))) else (if t2 = true then (M.ret 1) else (if a0 < a1 then (M.ret (-1)) else (if a0 > a1 then (M.ret 1) else (M.ret 0))))))) := by kernel_rfl
/-! ### nat_Cmp -/
noncomputable def nat_Cmp.Γ : Ctx := ⟨tys, fun f => bif Nat.beq f 54 then some cmp_Compare_int.ent else (bif Nat.beq f 55 then some cmp_Compare_uint32.ent else (none)), globs, eqs⟩
def nat_Cmp.l0.live : List (Nat × LK) := [(2, .box [(.lst (.int .u32))]), (3, .box [(.lst (.int .u32))]), (6, .val (.int .i64))]
def nat_Cmp.A : Live := fun i => bif Nat.beq i 10 then some nat_Cmp.l0.live else (none)
noncomputable def nat_Cmp.f (a0 : List Int) (a1 : List Int) : M Int := evFn nat_Cmp.Γ nat_Cmp.A Try.f37 (.pair (.agg (.lst (.int .u32))) (.agg (.lst (.int .u32)))) (.int .i64) (a0, a1)
noncomputable def nat_Cmp.ent : FnE := .plain (.pair (.agg (.lst (.int .u32))) (.agg (.lst (.int .u32)))) (.int .i64) false fun x => nat_Cmp.f x.1 x.2
noncomputable def nat_Cmp.l0.c : Code × Kont Int := focus nat_Cmp.Γ nat_Cmp.A (bodyOf Try.f37) (finQ nat_Cmp.Γ Try.f37.results.toList (.int .i64)) [.r, .r, .l, .r, .l]
noncomputable def nat_Cmp.l0 (x2 : List Int) (x3 : List Int) (x6 : Int) : M Int := loopOf nat_Cmp.Γ nat_Cmp.A nat_Cmp.l0.live nat_Cmp.l0.c (x2, x3, x6)
theorem nat_Cmp.l0_eq {x2 : List Int} {x3 : List Int} {x6 : Int} :
    roundOf nat_Cmp.Γ nat_Cmp.A nat_Cmp.l0.live nat_Cmp.l0.c (loopOf nat_Cmp.Γ nat_Cmp.A nat_Cmp.l0.live nat_Cmp.l0.c) (x2, x3, x6) =
    (if x6 ≥ 0 then (if 0 ≤ x6 then (if x6 < (x2.length : Int) then (if 0 ≤ x6 then (if x6 < (x3.length : Int) then (M.bind (cmp_Compare_uint32.f (rdI x2 x6) (rdI x3 x6)) fun t1 => (if t1 ≠ 0 then (M.ret t1) else (nat_Cmp.l0 x2 x3 (IntKind.i64.wrap (x6 - 1))))) else M.none) else M.none) else M.none) else M.none) else (M.ret 0)) := by kernel_rfl
theorem nat_Cmp.f_eq {a0 : List Int} {a1 : List Int} : nat_Cmp.f a0 a1 =
    (M.bind (cmp_Compare_int.f (a0.length : Int) (a1.length : Int)) fun t1 => (if t1 ≠ 0 then (M.ret t1) else (nat_Cmp.l0 a0 a1 (IntKind.i64.wrap ((a0.length : Int) - 1))))) := by kernel_rfl
/-! ### mbits_Sub32 -/
noncomputable def mbits_Sub32.Γ : Ctx := ⟨tys, fun f => none, globs, eqs⟩
def mbits_Sub32.A : Live := fun i => none
noncomputable def mbits_Sub32.f (a0 : Int) (a1 : Int) (a2 : Int) : M (Int × Int) := evFn mbits_Sub32.Γ mbits_Sub32.A Try.f52 (.pair (.int .u32) (.pair (.int .u32) (.int .u32))) (.pair (.int .u32) (.int .u32)) (a0, a1, a2)
noncomputable def mbits_Sub32.ent : FnE := .plain (.pair (.int .u32) (.pair (.int .u32) (.int .u32))) (.pair (.int .u32) (.int .u32)) true fun x => mbits_Sub32.f x.1 x.2.1 x.2.2
theorem mbits_Sub32.f_eq {a0 : Int} {a1 : Int} {a2 : Int} : mbits_Sub32.f a0 a1 a2 =
    (M.ret (IntKind.u32.wrap ((IntKind.u32.wrap (a0 - a1)) - a2), (IntKind.u32.wrap ((BitVec.ofInt IntKind.u32.bits (IntKind.u32.wrap ((BitVec.ofInt IntKind.u32.bits (IntKind.u32.wrap ((BitVec.ofInt IntKind.u32.bits (4294967295) ^^^ BitVec.ofInt IntKind.u32.bits a0).toNat)) &&& BitVec.ofInt IntKind.u32.bits a1).toNat)) ||| BitVec.ofInt IntKind.u32.bits (IntKind.u32.wrap ((BitVec.ofInt IntKind.u32.bits (IntKind.u32.wrap ((BitVec.ofInt IntKind.u32.bits (4294967295) ^^^ BitVec.ofInt IntKind.u32.bits (IntKind.u32.wrap ((BitVec.ofInt IntKind.u32.bits a0 ^^^ BitVec.ofInt IntKind.u32.bits a1).toNat))).toNat)) &&& BitVec.ofInt IntKind.u32.bits (IntKind.u32.wrap ((IntKind.u32.wrap (a0 - a1)) - a2))).toNat))).toNat)).fdiv (2 ^ 31))) := by kernel_rfl
/-! ### nat_Nat_at -/
noncomputable def nat_Nat_at.Γ : Ctx := ⟨tys, fun f => none, globs, eqs⟩
def nat_Nat_at.A : Live := fun i => none
noncomputable def nat_Nat_at.f (a0 : List Int) (a1 : Int) : M Int := evFn nat_Nat_at.Γ nat_Nat_at.A Try.f53 (.pair (.agg (.lst (.int .u32))) (.int .i64)) (.int .u32) (a0, a1)
noncomputable def nat_Nat_at.ent : FnE := .plain (.pair (.agg (.lst (.int .u32))) (.int .i64)) (.int .u32) false fun x => nat_Nat_at.f x.1 x.2
theorem nat_Nat_at.f_eq {a0 : List Int} {a1 : Int} : nat_Nat_at.f a0 a1 =
    (if a1 < (a0.length : Int) then (if 0 ≤ a1 then (if a1 < (a0.length : Int) then (M.ret (rdI a0 a1)) else M.none) else M.none) else (M.ret 0)) := by kernel_rfl
/-! ### nat_Sub -/
noncomputable def nat_Sub.Γ : Ctx := ⟨tys, fun f => bif Nat.beq f 16 then some nat_Made.ent else (bif Nat.beq f 37 then some nat_Cmp.ent else (bif Nat.beq f 52 then some mbits_Sub32.ent else (bif Nat.beq f 53 then some nat_Nat_at.ent else (none)))), globs, eqs⟩
def nat_Sub.l0.live : List (Nat × LK) := [(2, .box [(.lst (.int .u32))]), (3, .box [(.lst (.int .u32))]), (4, .box [(.lst (.int .u32))]), (6, .own true (.int .u32)), (7, .val (.int .u32)), (19, .val (.int .i64)), (20, .val (.int .i64))]
def nat_Sub.A : Live := fun i => bif Nat.beq i 12 then some nat_Sub.l0.live else (none)
noncomputable def nat_Sub.f (a0 : List Int) (a1 : List Int) : M ((List Int) × Bool) := evFn nat_Sub.Γ nat_Sub.A Try.f36 (.pair (.agg (.lst (.int .u32))) (.agg (.lst (.int .u32)))) (.pair (.agg (.lst (.int .u32))) .bool) (a0, a1)
noncomputable def nat_Sub.ent : FnE := .plain (.pair (.agg (.lst (.int .u32))) (.agg (.lst (.int .u32)))) (.pair (.agg (.lst (.int .u32))) .bool) true fun x => nat_Sub.f x.1 x.2
noncomputable def nat_Sub.l0.c : Code × Kont ((List Int) × Bool) := focus nat_Sub.Γ nat_Sub.A (bodyOf Try.f36) (finQ nat_Sub.Γ Try.f36.results.toList (.pair (.agg (.lst (.int .u32))) .bool)) [.r, .r, .r, .r, .l, .r, .l]
noncomputable def nat_Sub.l0 (x2 : List Int) (x3 : List Int) (x4 : List Int) (x6 : List Int) (x7 : Int) (x19 : Int) (x20 : Int) : M ((List Int) × Bool) := loopOf nat_Sub.Γ nat_Sub.A nat_Sub.l0.live nat_Sub.l0.c (x2, x3, x4, x6, x7, x19, x20)
theorem nat_Sub.l0_eq {x2 : List Int} {x3 : List Int} {x4 : List Int} {x6 : List Int} {x7 : Int} {x19 : Int} {x20 : Int} :
    roundOf nat_Sub.Γ nat_Sub.A nat_Sub.l0.live nat_Sub.l0.c (loopOf nat_Sub.Γ nat_Sub.A nat_Sub.l0.live nat_Sub.l0.c) (x2, x3, x4, x6, x7, x19, x20) =
    (if x20 < x19 then (M.bind (nat_Nat_at.f x2 x20) fun t1 => (M.bind (nat_Nat_at.f x3 x20) fun t2 => (M.bind (mbits_Sub32.f t1 t2 x7) fun t3 => (if 0 ≤ x20 then (if x20 < (x6.length : Int) then (nat_Sub.l0 x2 x3 x4 (x6.set x20.toNat t3.1) t3.2 x19 (IntKind.i64.wrap (x20 + 1))) else M.none) else M.none)))) else (M.bind (nat_Made.f x6) fun t4 => (M.ret (t4, true)))) := by kernel_rfl
theorem nat_Sub.f_eq {a0 : List Int} {a1 : List Int} : nat_Sub.f a0 a1 =
    (M.bind (nat_Cmp.f a0 a1) fun t1 => (if t1 < 0 then (M.ret (([] : List Int), false)) else (if 0 ≤ (a0.length : Int) then (if (a0.length : Int) ≤ 1099511627776 then (nat_Sub.l0 a0 a1 ([] : List Int) (List.replicate (a0.length : Int).toNat (0 : Int)) 0 ((List.replicate (a0.length : Int).toNat (0 : Int)).length : Int) 0) else M.none) else M.none))) := by kernel_rfl
/-! ### mbits_Add32 -/
noncomputable def mbits_Add32.Γ : Ctx := ⟨tys, fun f => none, globs, eqs⟩
def mbits_Add32.A : Live := fun i => none
noncomputable def mbits_Add32.f (a0 : Int) (a1 : Int) (a2 : Int) : M (Int × Int) := evFn mbits_Add32.Γ mbits_Add32.A Try.f56 (.pair (.int .u32) (.pair (.int .u32) (.int .u32))) (.pair (.int .u32) (.int .u32)) (a0, a1, a2)
noncomputable def mbits_Add32.ent : FnE := .plain (.pair (.int .u32) (.pair (.int .u32) (.int .u32))) (.pair (.int .u32) (.int .u32)) true fun x => mbits_Add32.f x.1 x.2.1 x.2.2
theorem mbits_Add32.f_eq {a0 : Int} {a1 : Int} {a2 : Int} : mbits_Add32.f a0 a1 a2 =
    (M.ret (IntKind.u32.wrap (IntKind.u64.wrap ((IntKind.u64.wrap ((IntKind.u64.wrap (a0)) + (IntKind.u64.wrap (a1)))) + (IntKind.u64.wrap (a2)))), IntKind.u32.wrap ((IntKind.u64.wrap ((IntKind.u64.wrap ((IntKind.u64.wrap (a0)) + (IntKind.u64.wrap (a1)))) + (IntKind.u64.wrap (a2)))).fdiv (2 ^ 32)))) := by kernel_rfl
/-! ### nat_Add -/
noncomputable def nat_Add.Γ : Ctx := ⟨tys, fun f => bif Nat.beq f 16 then some nat_Made.ent else (bif Nat.beq f 53 then some nat_Nat_at.ent else (bif Nat.beq f 56 then some mbits_Add32.ent else (none))), globs, eqs⟩
def nat_Add.l0.live : List (Nat × LK) := [(2, .box [(.lst (.int .u32))]), (3, .box [(.lst (.int .u32))]), (4, .box [(.lst (.int .u32))]), (6, .own true (.int .u32)), (7, .val (.int .u32)), (20, .val (.int .i64)), (21, .val (.int .i64))]
def nat_Add.A : Live := fun i => bif Nat.beq i 10 then some nat_Add.l0.live else (none)
noncomputable def nat_Add.f (a0 : List Int) (a1 : List Int) : M (List Int) := evFn nat_Add.Γ nat_Add.A Try.f38 (.pair (.agg (.lst (.int .u32))) (.agg (.lst (.int .u32)))) (.agg (.lst (.int .u32))) (a0, a1)
noncomputable def nat_Add.ent : FnE := .plain (.pair (.agg (.lst (.int .u32))) (.agg (.lst (.int .u32)))) (.agg (.lst (.int .u32))) false fun x => nat_Add.f x.1 x.2
noncomputable def nat_Add.l0.c : Code × Kont (List Int) := focus nat_Add.Γ nat_Add.A (bodyOf Try.f38) (finQ nat_Add.Γ Try.f38.results.toList (.agg (.lst (.int .u32)))) [.r, .r, .r, .r, .l, .r, .l]
noncomputable def nat_Add.l0 (x2 : List Int) (x3 : List Int) (x4 : List Int) (x6 : List Int) (x7 : Int) (x20 : Int) (x21 : Int) : M (List Int) := loopOf nat_Add.Γ nat_Add.A nat_Add.l0.live nat_Add.l0.c (x2, x3, x4, x6, x7, x20, x21)
theorem nat_Add.l0_eq {x2 : List Int} {x3 : List Int} {x4 : List Int} {x6 : List Int} {x7 : Int} {x20 : Int} {x21 : Int} :
    roundOf nat_Add.Γ nat_Add.A nat_Add.l0.live nat_Add.l0.c (loopOf nat_Add.Γ nat_Add.A nat_Add.l0.live nat_Add.l0.c) (x2, x3, x4, x6, x7, x20, x21) =
    (if x21 < x20 then (M.bind (nat_Nat_at.f x2 x21) fun t1 => (M.bind (nat_Nat_at.f x3 x21) fun t2 => (M.bind (mbits_Add32.f t1 t2 x7) fun t3 => (if 0 ≤ x21 then (if x21 < (x6.length : Int) then (nat_Add.l0 x2 x3 x4 (x6.set x21.toNat t3.1) t3.2 x20 (IntKind.i64.wrap (x21 + 1))) else M.none) else M.none)))) else (M.bind (nat_Made.f x6) fun t4 => (M.ret t4))) := by kernel_rfl
theorem nat_Add.f_eq {a0 : List Int} {a1 : List Int} : nat_Add.f a0 a1 =
    (if 0 ≤ (IntKind.i64.wrap ((mxI (a0.length : Int) (a1.length : Int)) + 1)) then (if (IntKind.i64.wrap ((mxI (a0.length : Int) (a1.length : Int)) + 1)) ≤ 1099511627776 then (nat_Add.l0 a0 a1 ([] : List Int) (List.replicate (IntKind.i64.wrap ((mxI (a0.length : Int) (a1.length : Int)) + 1)).toNat (0 : Int)) 0 ((List.replicate (IntKind.i64.wrap ((mxI (a0.length : Int) (a1.length : Int)) + 1)).toNat (0 : Int)).length : Int) 0) else M.none) else M.none) := by kernel_rfl
/-! ### numeraryref02_Sub -/
noncomputable def numeraryref02_Sub.Γ : Ctx := ⟨tys, fun f => bif Nat.beq f 49 then some numeraryref02_at.ent else (bif Nat.beq f 50 then some numeraryref02_trim.ent else (none)), globs, eqs⟩
def numeraryref02_Sub.l0.live : List (Nat × LK) := [(0, .val (.lst (.int .i64))), (1, .val (.lst (.int .i64))), (5, .own true (.int .i64)), (6, .val (.int .i64)), (7, .val (.int .i64))]
def numeraryref02_Sub.A : Live := fun i => bif Nat.beq i 8 then some numeraryref02_Sub.l0.live else (none)
noncomputable def numeraryref02_Sub.f (a0 : List Int) (a1 : List Int) : M (List Int) := evFn numeraryref02_Sub.Γ numeraryref02_Sub.A Try.f40 (.pair (.lst (.int .i64)) (.lst (.int .i64))) (.lst (.int .i64)) (a0, a1)
noncomputable def numeraryref02_Sub.ent : FnE := .plain (.pair (.lst (.int .i64)) (.lst (.int .i64))) (.lst (.int .i64)) false fun x => numeraryref02_Sub.f x.1 x.2
noncomputable def numeraryref02_Sub.l0.c : Code × Kont (List Int) := focus numeraryref02_Sub.Γ numeraryref02_Sub.A (bodyOf Try.f40) (finQ numeraryref02_Sub.Γ Try.f40.results.toList (.lst (.int .i64))) [.r, .r, .r, .l, .r, .l]
noncomputable def numeraryref02_Sub.l0 (x0 : List Int) (x1 : List Int) (x5 : List Int) (x6 : Int) (x7 : Int) : M (List Int) := loopOf numeraryref02_Sub.Γ numeraryref02_Sub.A numeraryref02_Sub.l0.live numeraryref02_Sub.l0.c (x0, x1, x5, x6, x7)
theorem numeraryref02_Sub.l0_eq {x0 : List Int} {x1 : List Int} {x5 : List Int} {x6 : Int} {x7 : Int} :
    roundOf numeraryref02_Sub.Γ numeraryref02_Sub.A numeraryref02_Sub.l0.live numeraryref02_Sub.l0.c (loopOf numeraryref02_Sub.Γ numeraryref02_Sub.A numeraryref02_Sub.l0.live numeraryref02_Sub.l0.c) (x0, x1, x5, x6, x7) =
    (if x7 < (x0.length : Int) then (M.bind (numeraryref02_at.f x1 x7) fun t1 => (if 0 ≤ x7 then (if x7 < (x0.length : Int) then (if (IntKind.i64.wrap ((IntKind.i64.wrap ((rdI x0 x7) - t1)) - x6)) < 0 then (if x5.length + ([IntKind.i64.wrap ((IntKind.i64.wrap ((IntKind.i64.wrap ((rdI x0 x7) - t1)) - x6)) + 10)] : List Int).length ≤ 1099511627776 then (numeraryref02_Sub.l0 x0 x1 (x5 ++ ([IntKind.i64.wrap ((IntKind.i64.wrap ((IntKind.i64.wrap ((rdI x0 x7) - t1)) - x6)) + 10)] : List Int)) 1 (IntKind.i64.wrap (x7 + 1))) else M.none) else (if x5.length + ([IntKind.i64.wrap ((IntKind.i64.wrap ((rdI x0 x7) - t1)) - x6)] : List Int).length ≤ 1099511627776 then (numeraryref02_Sub.l0 x0 x1 (x5 ++ ([IntKind.i64.wrap ((IntKind.i64.wrap ((rdI x0 x7) - t1)) - x6)] : List Int)) 0 (IntKind.i64.wrap (x7 + 1))) else M.none)) else M.none) else M.none)) else (M.bind (numeraryref02_trim.f x5) fun t2 => (M.ret t2))) := by kernel_rfl
theorem numeraryref02_Sub.f_eq {a0 : List Int} {a1 : List Int} : numeraryref02_Sub.f a0 a1 =
    (numeraryref02_Sub.l0 a0 a1 ([] : List Int) 0 0) := by kernel_rfl
/-! ### numerarylaw04_few -/
noncomputable def numerarylaw04_few.Γ : Ctx := ⟨tys, fun f => none, globs, eqs⟩
def numerarylaw04_few.A : Live := fun i => none
noncomputable def numerarylaw04_few.f (a0 : List Int) (a1 : Int) : M (List Int) := evFn numerarylaw04_few.Γ numerarylaw04_few.A Try.f41 (.pair (.lst (.int .u32)) (.int .i64)) (.lst (.int .u32)) (a0, a1)
noncomputable def numerarylaw04_few.ent : FnE := .plain (.pair (.lst (.int .u32)) (.int .i64)) (.lst (.int .u32)) false fun x => numerarylaw04_few.f x.1 x.2
theorem numerarylaw04_few.f_eq {a0 : List Int} {a1 : Int} : numerarylaw04_few.f a0 a1 =
    (if 0 ≤ (mnI (a0.length : Int) a1) then (if (mnI (a0.length : Int) a1) ≤ (a0.length : Int) then (M.ret (a0.take (mnI (a0.length : Int) a1).toNat)) else M.none) else M.none) := by kernel_rfl
/-! ### mbits_Div32 -/
noncomputable def mbits_Div32.Γ : Ctx := ⟨tys, fun f => none, globs, eqs⟩
def mbits_Div32.A : Live := fun i => none
noncomputable def mbits_Div32.f (a0 : Int) (a1 : Int) (a2 : Int) : M (Int × Int) := evFn mbits_Div32.Γ mbits_Div32.A Try.f61 (.pair (.int .u32) (.pair (.int .u32) (.int .u32))) (.pair (.int .u32) (.int .u32)) (a0, a1, a2)
noncomputable def mbits_Div32.ent : FnE := .plain (.pair (.int .u32) (.pair (.int .u32) (.int .u32))) (.pair (.int .u32) (.int .u32)) true fun x => mbits_Div32.f x.1 x.2.1 x.2.2
theorem mbits_Div32.f_eq {a0 : Int} {a1 : Int} {a2 : Int} : mbits_Div32.f a0 a1 a2 =
    (if a2 ≠ 0 then (if a2 ≤ a0 then M.none else (if IntKind.u64.wrap (a2) ≠ 0 then (if IntKind.u64.wrap (a2) ≠ 0 then (M.ret (IntKind.u32.wrap (IntKind.u64.wrap ((IntKind.u64.wrap ((BitVec.ofInt IntKind.u64.bits (IntKind.u64.wrap ((IntKind.u64.wrap (a0)) * 2 ^ 32)) ||| BitVec.ofInt IntKind.u64.bits (IntKind.u64.wrap (a1))).toNat)).tdiv (IntKind.u64.wrap (a2)))), IntKind.u32.wrap ((IntKind.u64.wrap ((BitVec.ofInt IntKind.u64.bits (IntKind.u64.wrap ((IntKind.u64.wrap (a0)) * 2 ^ 32)) ||| BitVec.ofInt IntKind.u64.bits (IntKind.u64.wrap (a1))).toNat)).tmod (IntKind.u64.wrap (a2))))) else M.none) else M.none)) else (if IntKind.u64.wrap (a2) ≠ 0 then (if IntKind.u64.wrap (a2) ≠ 0 then (M.ret (IntKind.u32.wrap (IntKind.u64.wrap ((IntKind.u64.wrap ((BitVec.ofInt IntKind.u64.bits (IntKind.u64.wrap ((IntKind.u64.wrap (a0)) * 2 ^ 32)) ||| BitVec.ofInt IntKind.u64.bits (IntKind.u64.wrap (a1))).toNat)).tdiv (IntKind.u64.wrap (a2)))), IntKind.u32.wrap ((IntKind.u64.wrap ((BitVec.ofInt IntKind.u64.bits (IntKind.u64.wrap ((IntKind.u64.wrap (a0)) * 2 ^ 32)) ||| BitVec.ofInt IntKind.u64.bits (IntKind.u64.wrap (a1))).toNat)).tmod (IntKind.u64.wrap (a2))))) else M.none) else M.none)) := by kernel_rfl
/-! ### quot_small -/
noncomputable def quot_small.Γ : Ctx := ⟨tys, fun f => bif Nat.beq f 61 then some mbits_Div32.ent else (none), globs, eqs⟩
def quot_small.l0.live : List (Nat × LK) := [(0, .val (.lst (.int .u32))), (1, .val (.int .u32)), (6, .own true (.int .u32)), (7, .val (.int .u32)), (8, .val (.int .i64))]
def quot_small.A : Live := fun i => bif Nat.beq i 8 then some quot_small.l0.live else (none)
noncomputable def quot_small.f (a0 : List Int) (a1 : Int) : M ((List Int) × Int) := evFn quot_small.Γ quot_small.A Try.f57 (.pair (.lst (.int .u32)) (.int .u32)) (.pair (.lst (.int .u32)) (.int .u32)) (a0, a1)
noncomputable def quot_small.ent : FnE := .plain (.pair (.lst (.int .u32)) (.int .u32)) (.pair (.lst (.int .u32)) (.int .u32)) true fun x => quot_small.f x.1 x.2
noncomputable def quot_small.l0.c : Code × Kont ((List Int) × Int) := focus quot_small.Γ quot_small.A (bodyOf Try.f57) (finQ quot_small.Γ Try.f57.results.toList (.pair (.lst (.int .u32)) (.int .u32))) [.r, .r, .r, .l, .r, .l]
noncomputable def quot_small.l0 (x0 : List Int) (x1 : Int) (x6 : List Int) (x7 : Int) (x8 : Int) : M ((List Int) × Int) := loopOf quot_small.Γ quot_small.A quot_small.l0.live quot_small.l0.c (x0, x1, x6, x7, x8)
theorem quot_small.l0_eq {x0 : List Int} {x1 : Int} {x6 : List Int} {x7 : Int} {x8 : Int} :
    roundOf quot_small.Γ quot_small.A quot_small.l0.live quot_small.l0.c (loopOf quot_small.Γ quot_small.A quot_small.l0.live quot_small.l0.c) (x0, x1, x6, x7, x8) =
    (if x8 ≥ 0 then (if 0 ≤ x8 then (if x8 < (x0.length : Int) then (M.bind (mbits_Div32.f x7 (rdI x0 x8) x1) fun t1 => (if 0 ≤ x8 then (if x8 < (x6.length : Int) then (quot_small.l0 x0 x1 (x6.set x8.toNat t1.1) t1.2 (IntKind.i64.wrap (x8 - 1))) else M.none) else M.none)) else M.none) else M.none) else (M.ret (x6, x7))) := by kernel_rfl
theorem quot_small.f_eq {a0 : List Int} {a1 : Int} : quot_small.f a0 a1 =
    (if 0 ≤ (a0.length : Int) then (if (a0.length : Int) ≤ 1099511627776 then (quot_small.l0 a0 a1 (List.replicate (a0.length : Int).toNat (0 : Int)) 0 (IntKind.i64.wrap ((a0.length : Int) - 1))) else M.none) else M.none) := by kernel_rfl
/-! ### mbits_LeadingZeros32 -/
noncomputable def mbits_LeadingZeros32.Γ : Ctx := ⟨tys, fun f => bif Nat.beq f 51 then some mbits_Len32.ent else (none), globs, eqs⟩
def mbits_LeadingZeros32.A : Live := fun i => none
noncomputable def mbits_LeadingZeros32.f (a0 : Int) : M Int := evFn mbits_LeadingZeros32.Γ mbits_LeadingZeros32.A Try.f62 (.int .u32) (.int .i64) a0
noncomputable def mbits_LeadingZeros32.ent : FnE := .plain (.int .u32) (.int .i64) false fun x => mbits_LeadingZeros32.f x
theorem mbits_LeadingZeros32.f_eq {a0 : Int} : mbits_LeadingZeros32.f a0 =
    (M.bind (mbits_Len32.f a0) fun t1 => (M.ret (IntKind.i64.wrap (32 - t1)))) := by kernel_rfl
/-! ### quot_shifted -/
noncomputable def quot_shifted.Γ : Ctx := ⟨tys, fun f => none, globs, eqs⟩
def quot_shifted.l0.live : List (Nat × LK) := [(1, .val (.int .i64)), (5, .own true (.int .u32)), (12, .val (.lst (.int .u32))), (13, .val (.int .i64)), (14, .val (.int .i64))]
def quot_shifted.A : Live := fun i => bif Nat.beq i 6 then some quot_shifted.l0.live else (none)
noncomputable def quot_shifted.f (a0 : List Int) (a1 : Int) : M (List Int) := evFnOwn quot_shifted.Γ quot_shifted.A Try.f63 (.pair (.lst (.int .u32)) (.int .i64)) (.int .u32) (a0, a1)
noncomputable def quot_shifted.ent : FnE := .own (.pair (.lst (.int .u32)) (.int .i64)) (.int .u32) fun x => quot_shifted.f x.1 x.2
noncomputable def quot_shifted.l0.c : Code × Kont (List Int) := focus quot_shifted.Γ quot_shifted.A (bodyOf Try.f63) (finOwn Try.f63.results.toList (.int .u32)) [.r, .r, .l, .r, .l]
noncomputable def quot_shifted.l0 (x1 : Int) (x5 : List Int) (x12 : List Int) (x13 : Int) (x14 : Int) : M (List Int) := loopOf quot_shifted.Γ quot_shifted.A quot_shifted.l0.live quot_shifted.l0.c (x1, x5, x12, x13, x14)
theorem quot_shifted.l0_eq {x1 : Int} {x5 : List Int} {x12 : List Int} {x13 : Int} {x14 : Int} :
    roundOf quot_shifted.Γ quot_shifted.A quot_shifted.l0.live quot_shifted.l0.c (loopOf quot_shifted.Γ quot_shifted.A quot_shifted.l0.live quot_shifted.l0.c) (x1, x5, x12, x13, x14) =
    (if x14 < x13 then (if 0 ≤ x14 then (if x14 < (x12.length : Int) then (if 0 ≤ x14 then (if x14 < (x5.length : Int) then (if 0 ≤ x1 then (if 0 ≤ x14 then (if x14 < (x5.length : Int) then (if 0 ≤ x1 then (if 0 ≤ (IntKind.i64.wrap (x14 + 1)) then (if (IntKind.i64.wrap (x14 + 1)) < ((x5.set x14.toNat (IntKind.u32.wrap ((BitVec.ofInt IntKind.u32.bits (x5.getD x14.toNat 0) ||| BitVec.ofInt IntKind.u32.bits (IntKind.u32.wrap ((rdI x12 x14) * 2 ^ (min x1.toNat 32)))).toNat))).length : Int) then (quot_shifted.l0 x1 ((x5.set x14.toNat (IntKind.u32.wrap ((BitVec.ofInt IntKind.u32.bits (x5.getD x14.toNat 0) ||| BitVec.ofInt IntKind.u32.bits (IntKind.u32.wrap ((rdI x12 x14) * 2 ^ (min x1.toNat 32)))).toNat))).set ((IntKind.i64.wrap (x14 + 1)).toNat) (IntKind.u32.wrap ((IntKind.u64.wrap ((IntKind.u64.wrap (rdI x12 x14)) * 2 ^ (min x1.toNat 64))).fdiv (2 ^ 32)))) x12 x13 (IntKind.i64.wrap (x14 + 1))) else M.none) else M.none) else M.none) else M.none) else M.none) else M.none) else M.none) else M.none) else M.none) else M.none) else (M.ret x5)) := by kernel_rfl
theorem quot_shifted.f_eq {a0 : List Int} {a1 : Int} : quot_shifted.f a0 a1 =
    (if 0 ≤ (IntKind.i64.wrap ((a0.length : Int) + 1)) then (if (IntKind.i64.wrap ((a0.length : Int) + 1)) ≤ 1099511627776 then (quot_shifted.l0 a1 (List.replicate (IntKind.i64.wrap ((a0.length : Int) + 1)).toNat (0 : Int)) a0 (a0.length : Int) 0) else M.none) else M.none) := by kernel_rfl
/-! ### quot_guess -/
noncomputable def quot_guess.Γ : Ctx := ⟨tys, fun f => none, globs, eqs⟩
def quot_guess.l0.live : List (Nat × LK) := [(0, .val (.lst (.int .u32))), (1, .val (.lst (.int .u32))), (5, .val (.int .i64)), (7, .val (.int .u64)), (8, .val (.int .u64))]
def quot_guess.A : Live := fun i => bif Nat.beq i 8 then some quot_guess.l0.live else (none)
noncomputable def quot_guess.f (a0 : List Int) (a1 : List Int) : M Int := evFn quot_guess.Γ quot_guess.A Try.f64 (.pair (.lst (.int .u32)) (.lst (.int .u32))) (.int .u64) (a0, a1)
noncomputable def quot_guess.ent : FnE := .plain (.pair (.lst (.int .u32)) (.lst (.int .u32))) (.int .u64) false fun x => quot_guess.f x.1 x.2
noncomputable def quot_guess.l0.c : Code × Kont Int := focus quot_guess.Γ quot_guess.A (bodyOf Try.f64) (finQ quot_guess.Γ Try.f64.results.toList (.int .u64)) [.r, .r, .r, .r, .l, .l]
noncomputable def quot_guess.l0 (x0 : List Int) (x1 : List Int) (x5 : Int) (x7 : Int) (x8 : Int) : M Int := loopOf quot_guess.Γ quot_guess.A quot_guess.l0.live quot_guess.l0.c (x0, x1, x5, x7, x8)
theorem quot_guess.l0_eq {x0 : List Int} {x1 : List Int} {x5 : Int} {x7 : Int} {x8 : Int} :
    roundOf quot_guess.Γ quot_guess.A quot_guess.l0.live quot_guess.l0.c (loopOf quot_guess.Γ quot_guess.A quot_guess.l0.live quot_guess.l0.c) (x0, x1, x5, x7, x8) =
    (if x7 ≥ 4294967296 then (if 0 ≤ (IntKind.i64.wrap (x5 - 1)) then (if (IntKind.i64.wrap (x5 - 1)) < (x1.length : Int) then (if (IntKind.u64.wrap (x8 + (IntKind.u64.wrap (rdI x1 (IntKind.i64.wrap (x5 - 1)))))) ≥ 4294967296 then (M.ret (IntKind.u64.wrap (x7 - 1))) else (quot_guess.l0 x0 x1 x5 (IntKind.u64.wrap (x7 - 1)) (IntKind.u64.wrap (x8 + (IntKind.u64.wrap (rdI x1 (IntKind.i64.wrap (x5 - 1)))))))) else M.none) else M.none) else (if 0 ≤ (IntKind.i64.wrap (x5 - 2)) then (if (IntKind.i64.wrap (x5 - 2)) < (x1.length : Int) then (if 0 ≤ (IntKind.i64.wrap (x5 - 2)) then (if (IntKind.i64.wrap (x5 - 2)) < (x0.length : Int) then (if (IntKind.u64.wrap (x7 * (IntKind.u64.wrap (rdI x1 (IntKind.i64.wrap (x5 - 2)))))) > (IntKind.u64.wrap ((BitVec.ofInt IntKind.u64.bits (IntKind.u64.wrap (x8 * 2 ^ 32)) ||| BitVec.ofInt IntKind.u64.bits (IntKind.u64.wrap (rdI x0 (IntKind.i64.wrap (x5 - 2))))).toNat)) then (if 0 ≤ (IntKind.i64.wrap (x5 - 1)) then (if (IntKind.i64.wrap (x5 - 1)) < (x1.length : Int) then (if (IntKind.u64.wrap (x8 + (IntKind.u64.wrap (rdI x1 (IntKind.i64.wrap (x5 - 1)))))) ≥ 4294967296 then (M.ret (IntKind.u64.wrap (x7 - 1))) else (quot_guess.l0 x0 x1 x5 (IntKind.u64.wrap (x7 - 1)) (IntKind.u64.wrap (x8 + (IntKind.u64.wrap (rdI x1 (IntKind.i64.wrap (x5 - 1)))))))) else M.none) else M.none) else (M.ret x7)) else M.none) else M.none) else M.none) else M.none)) := by kernel_rfl
theorem quot_guess.f_eq {a0 : List Int} {a1 : List Int} : quot_guess.f a0 a1 =
    (if 0 ≤ (a1.length : Int) then (if (a1.length : Int) < (a0.length : Int) then (if 0 ≤ (IntKind.i64.wrap ((a1.length : Int) - 1)) then (if (IntKind.i64.wrap ((a1.length : Int) - 1)) < (a0.length : Int) then (if 0 ≤ (IntKind.i64.wrap ((a1.length : Int) - 1)) then (if (IntKind.i64.wrap ((a1.length : Int) - 1)) < (a1.length : Int) then (if IntKind.u64.wrap (rdI a1 (IntKind.i64.wrap ((a1.length : Int) - 1))) ≠ 0 then (if 0 ≤ (IntKind.i64.wrap ((a1.length : Int) - 1)) then (if (IntKind.i64.wrap ((a1.length : Int) - 1)) < (a1.length : Int) then (if IntKind.u64.wrap (rdI a1 (IntKind.i64.wrap ((a1.length : Int) - 1))) ≠ 0 then (quot_guess.l0 a0 a1 (a1.length : Int) (IntKind.u64.wrap ((IntKind.u64.wrap ((BitVec.ofInt IntKind.u64.bits (IntKind.u64.wrap ((IntKind.u64.wrap (rdI a0 (a1.length : Int))) * 2 ^ 32)) ||| BitVec.ofInt IntKind.u64.bits (IntKind.u64.wrap (rdI a0 (IntKind.i64.wrap ((a1.length : Int) - 1))))).toNat)).tdiv (IntKind.u64.wrap (rdI a1 (IntKind.i64.wrap ((a1.length : Int) - 1)))))) ((IntKind.u64.wrap ((BitVec.ofInt IntKind.u64.bits (IntKind.u64.wrap ((IntKind.u64.wrap (rdI a0 (a1.length : Int))) * 2 ^ 32)) ||| BitVec.ofInt IntKind.u64.bits (IntKind.u64.wrap (rdI a0 (IntKind.i64.wrap ((a1.length : Int) - 1))))).toNat)).tmod (IntKind.u64.wrap (rdI a1 (IntKind.i64.wrap ((a1.length : Int) - 1)))))) else M.none) else M.none) else M.none) else M.none) else M.none) else M.none) else M.none) else M.none) else M.none) else M.none) := by kernel_rfl
/-! ### quot_less -/
noncomputable def quot_less.Γ : Ctx := ⟨tys, fun f => bif Nat.beq f 52 then some mbits_Sub32.ent else (none), globs, eqs⟩
def quot_less.l0.live : List (Nat × LK) := [(0, .own false (.int .u32)), (1, .val (.lst (.int .u32))), (2, .val (.int .u64)), (7, .val (.int .u64)), (8, .val (.int .u32)), (11, .val (.lst (.int .u32))), (12, .val (.int .i64)), (13, .val (.int .i64))]
def quot_less.A : Live := fun i => bif Nat.beq i 6 then some quot_less.l0.live else (none)
noncomputable def quot_less.f (a0 : List Int) (a1 : List Int) (a2 : Int) : M (Bool × List Int) := evFnRow quot_less.Γ quot_less.A Try.f65 (.int .u32) (.pair (.lst (.int .u32)) (.int .u64)) .bool a0 (a1, a2)
noncomputable def quot_less.ent : FnE := .ioRow (.int .u32) (.pair (.lst (.int .u32)) (.int .u64)) .bool fun l x => quot_less.f l x.1 x.2
noncomputable def quot_less.l0.c : Code × Kont (Bool × List Int) := focus quot_less.Γ quot_less.A (bodyOf Try.f65) (finRow quot_less.Γ Try.f65.results.toList (.int .u32) .bool) [.r, .r, .l, .r, .l]
noncomputable def quot_less.l0 (x0 : List Int) (x1 : List Int) (x2 : Int) (x7 : Int) (x8 : Int) (x11 : List Int) (x12 : Int) (x13 : Int) : M (Bool × List Int) := loopOf quot_less.Γ quot_less.A quot_less.l0.live quot_less.l0.c (x0, x1, x2, x7, x8, x11, x12, x13)
theorem quot_less.l0_eq {x0 : List Int} {x1 : List Int} {x2 : Int} {x7 : Int} {x8 : Int} {x11 : List Int} {x12 : Int} {x13 : Int} :
    roundOf quot_less.Γ quot_less.A quot_less.l0.live quot_less.l0.c (loopOf quot_less.Γ quot_less.A quot_less.l0.live quot_less.l0.c) (x0, x1, x2, x7, x8, x11, x12, x13) =
    (if x13 < x12 then (if 0 ≤ x13 then (if x13 < (x11.length : Int) then (if 0 ≤ x13 then (if x13 < (x0.length : Int) then (M.bind (mbits_Sub32.f (x0.getD x13.toNat 0) (IntKind.u32.wrap (IntKind.u64.wrap (x7 + (IntKind.u64.wrap (x2 * (IntKind.u64.wrap (rdI x11 x13))))))) x8) fun t1 => (if 0 ≤ x13 then (if x13 < (x0.length : Int) then (quot_less.l0 (x0.set x13.toNat t1.1) x1 x2 ((IntKind.u64.wrap (x7 + (IntKind.u64.wrap (x2 * (IntKind.u64.wrap (rdI x11 x13)))))).fdiv (2 ^ 32)) t1.2 x11 x12 (IntKind.i64.wrap (x13 + 1))) else M.none) else M.none)) else M.none) else M.none) else M.none) else M.none) else (if 0 ≤ (x1.length : Int) then (if (x1.length : Int) < (x0.length : Int) then (M.bind (mbits_Sub32.f (x0.getD ((x1.length : Int).toNat) 0) (IntKind.u32.wrap (x7)) x8) fun t2 => (if 0 ≤ (x1.length : Int) then (if (x1.length : Int) < (x0.length : Int) then (M.ret (decide (t2.2 = 1), x0.set ((x1.length : Int).toNat) t2.1)) else M.none) else M.none)) else M.none) else M.none)) := by kernel_rfl
theorem quot_less.f_eq {a0 : List Int} {a1 : List Int} {a2 : Int} : quot_less.f a0 a1 a2 =
    (quot_less.l0 a0 a1 a2 0 0 a1 (a1.length : Int) 0) := by kernel_rfl
/-! ### quot_more -/
noncomputable def quot_more.Γ : Ctx := ⟨tys, fun f => bif Nat.beq f 56 then some mbits_Add32.ent else (none), globs, eqs⟩
def quot_more.l0.live : List (Nat × LK) := [(0, .own false (.int .u32)), (1, .val (.lst (.int .u32))), (4, .val (.int .u32)), (7, .val (.lst (.int .u32))), (8, .val (.int .i64)), (9, .val (.int .i64))]
def quot_more.A : Live := fun i => bif Nat.beq i 4 then some quot_more.l0.live else (none)
noncomputable def quot_more.f (a0 : List Int) (a1 : List Int) : M (Unit × List Int) := evFnRow quot_more.Γ quot_more.A Try.f66 (.int .u32) (.lst (.int .u32)) .nil a0 a1
noncomputable def quot_more.ent : FnE := .ioRow (.int .u32) (.lst (.int .u32)) .nil fun l x => quot_more.f l x
noncomputable def quot_more.l0.c : Code × Kont (Unit × List Int) := focus quot_more.Γ quot_more.A (bodyOf Try.f66) (finRow quot_more.Γ Try.f66.results.toList (.int .u32) .nil) [.r, .l, .r, .l]
noncomputable def quot_more.l0 (x0 : List Int) (x1 : List Int) (x4 : Int) (x7 : List Int) (x8 : Int) (x9 : Int) : M (Unit × List Int) := loopOf quot_more.Γ quot_more.A quot_more.l0.live quot_more.l0.c (x0, x1, x4, x7, x8, x9)
theorem quot_more.l0_eq {x0 : List Int} {x1 : List Int} {x4 : Int} {x7 : List Int} {x8 : Int} {x9 : Int} :
    roundOf quot_more.Γ quot_more.A quot_more.l0.live quot_more.l0.c (loopOf quot_more.Γ quot_more.A quot_more.l0.live quot_more.l0.c) (x0, x1, x4, x7, x8, x9) =
    (if x9 < x8 then (if 0 ≤ x9 then (if x9 < (x7.length : Int) then (if 0 ≤ x9 then (if x9 < (x0.length : Int) then (M.bind (mbits_Add32.f (x0.getD x9.toNat 0) (rdI x7 x9) x4) fun t1 => (if 0 ≤ x9 then (if x9 < (x0.length : Int) then (quot_more.l0 (x0.set x9.toNat t1.1) x1 t1.2 x7 x8 (IntKind.i64.wrap (x9 + 1))) else M.none) else M.none)) else M.none) else M.none) else M.none) else M.none) else (if 0 ≤ (x1.length : Int) then (if (x1.length : Int) < (x0.length : Int) then (if 0 ≤ (x1.length : Int) then (if (x1.length : Int) < (x0.length : Int) then (M.ret ((), x0.set ((x1.length : Int).toNat) (IntKind.u32.wrap ((x0.getD ((x1.length : Int).toNat) 0) + x4)))) else M.none) else M.none) else M.none) else M.none)) := by kernel_rfl
theorem quot_more.f_eq {a0 : List Int} {a1 : List Int} : quot_more.f a0 a1 =
    (quot_more.l0 a0 a1 0 a1 (a1.length : Int) 0) := by kernel_rfl
/-! ### quot_back -/
noncomputable def quot_back.Γ : Ctx := ⟨tys, fun f => none, globs, eqs⟩
def quot_back.l0.live : List (Nat × LK) := [(0, .val (.lst (.int .u32))), (1, .val (.int .i64)), (5, .own true (.int .u32)), (11, .val (.int .i64)), (12, .val (.int .i64))]
def quot_back.A : Live := fun i => bif Nat.beq i 6 then some quot_back.l0.live else (none)
noncomputable def quot_back.f (a0 : List Int) (a1 : Int) : M (List Int) := evFn quot_back.Γ quot_back.A Try.f67 (.pair (.lst (.int .u32)) (.int .i64)) (.lst (.int .u32)) (a0, a1)
noncomputable def quot_back.ent : FnE := .plain (.pair (.lst (.int .u32)) (.int .i64)) (.lst (.int .u32)) false fun x => quot_back.f x.1 x.2
noncomputable def quot_back.l0.c : Code × Kont (List Int) := focus quot_back.Γ quot_back.A (bodyOf Try.f67) (finQ quot_back.Γ Try.f67.results.toList (.lst (.int .u32))) [.r, .r, .l, .r, .l]
noncomputable def quot_back.l0 (x0 : List Int) (x1 : Int) (x5 : List Int) (x11 : Int) (x12 : Int) : M (List Int) := loopOf quot_back.Γ quot_back.A quot_back.l0.live quot_back.l0.c (x0, x1, x5, x11, x12)
theorem quot_back.l0_eq {x0 : List Int} {x1 : Int} {x5 : List Int} {x11 : Int} {x12 : Int} :
    roundOf quot_back.Γ quot_back.A quot_back.l0.live quot_back.l0.c (loopOf quot_back.Γ quot_back.A quot_back.l0.live quot_back.l0.c) (x0, x1, x5, x11, x12) =
    (if x12 < x11 then (if 0 ≤ x12 then (if x12 < (x0.length : Int) then (if 0 ≤ x1 then (if 0 ≤ x12 then (if x12 < (x5.length : Int) then (if (IntKind.i64.wrap (x12 + 1)) < (x0.length : Int) then (if 0 ≤ x12 then (if x12 < ((x5.set x12.toNat ((rdI x0 x12).fdiv (2 ^ (min x1.toNat 32)))).length : Int) then (if 0 ≤ (IntKind.i64.wrap (x12 + 1)) then (if (IntKind.i64.wrap (x12 + 1)) < (x0.length : Int) then (if 0 ≤ x1 then (if 0 ≤ x12 then (if x12 < ((x5.set x12.toNat ((rdI x0 x12).fdiv (2 ^ (min x1.toNat 32)))).length : Int) then (quot_back.l0 x0 x1 ((x5.set x12.toNat ((rdI x0 x12).fdiv (2 ^ (min x1.toNat 32)))).set x12.toNat (IntKind.u32.wrap ((BitVec.ofInt IntKind.u32.bits ((x5.set x12.toNat ((rdI x0 x12).fdiv (2 ^ (min x1.toNat 32)))).getD x12.toNat 0) ||| BitVec.ofInt IntKind.u32.bits (IntKind.u32.wrap ((IntKind.u64.wrap ((IntKind.u64.wrap (rdI x0 (IntKind.i64.wrap (x12 + 1)))) * 2 ^ 32)).fdiv (2 ^ (min x1.toNat 64))))).toNat))) x11 (IntKind.i64.wrap (x12 + 1))) else M.none) else M.none) else M.none) else M.none) else M.none) else M.none) else M.none) else (quot_back.l0 x0 x1 (x5.set x12.toNat ((rdI x0 x12).fdiv (2 ^ (min x1.toNat 32)))) x11 (IntKind.i64.wrap (x12 + 1)))) else M.none) else M.none) else M.none) else M.none) else M.none) else (M.ret x5)) := by kernel_rfl
theorem quot_back.f_eq {a0 : List Int} {a1 : Int} : quot_back.f a0 a1 =
    (if 0 ≤ (a0.length : Int) then (if (a0.length : Int) ≤ 1099511627776 then (quot_back.l0 a0 a1 (List.replicate (a0.length : Int).toNat (0 : Int)) (a0.length : Int) 0) else M.none) else M.none) := by kernel_rfl
/-! ### quot_long -/
noncomputable def quot_long.Γ : Ctx := ⟨tys, fun f => bif Nat.beq f 62 then some mbits_LeadingZeros32.ent else (bif Nat.beq f 63 then some quot_shifted.ent else (bif Nat.beq f 64 then some quot_guess.ent else (bif Nat.beq f 65 then some quot_less.ent else (bif Nat.beq f 66 then some quot_more.ent else (bif Nat.beq f 67 then some quot_back.ent else (none)))))), globs, eqs⟩
def quot_long.l0.live : List (Nat × LK) := [(6, .val (.int .i64)), (7, .own true (.int .u32)), (8, .val (.lst (.int .u32))), (9, .own true (.int .u32)), (10, .val (.int .i64))]
def quot_long.A : Live := fun i => bif Nat.beq i 10 then some quot_long.l0.live else (none)
noncomputable def quot_long.f (a0 : List Int) (a1 : List Int) : M ((List Int) × List Int) := evFn quot_long.Γ quot_long.A Try.f58 (.pair (.lst (.int .u32)) (.lst (.int .u32))) (.pair (.lst (.int .u32)) (.lst (.int .u32))) (a0, a1)
noncomputable def quot_long.ent : FnE := .plain (.pair (.lst (.int .u32)) (.lst (.int .u32))) (.pair (.lst (.int .u32)) (.lst (.int .u32))) true fun x => quot_long.f x.1 x.2
noncomputable def quot_long.l0.c : Code × Kont ((List Int) × List Int) := focus quot_long.Γ quot_long.A (bodyOf Try.f58) (finQ quot_long.Γ Try.f58.results.toList (.pair (.lst (.int .u32)) (.lst (.int .u32)))) [.r, .r, .r, .r, .l, .r, .l]
noncomputable def quot_long.l0 (x6 : Int) (x7 : List Int) (x8 : List Int) (x9 : List Int) (x10 : Int) : M ((List Int) × List Int) := loopOf quot_long.Γ quot_long.A quot_long.l0.live quot_long.l0.c (x6, x7, x8, x9, x10)
theorem quot_long.l0_eq {x6 : Int} {x7 : List Int} {x8 : List Int} {x9 : List Int} {x10 : Int} :
    roundOf quot_long.Γ quot_long.A quot_long.l0.live quot_long.l0.c (loopOf quot_long.Γ quot_long.A quot_long.l0.live quot_long.l0.c) (x6, x7, x8, x9, x10) =
    (if x10 ≥ 0 then (if 0 ≤ (IntKind.i64.wrap ((IntKind.i64.wrap (x10 + (x8.length : Int))) + 1)) then (if (IntKind.i64.wrap ((IntKind.i64.wrap (x10 + (x8.length : Int))) + 1)) ≤ (x7.length : Int) then (if 0 ≤ x10 then (if x10 ≤ (IntKind.i64.wrap ((IntKind.i64.wrap (x10 + (x8.length : Int))) + 1)) then (if x10 < (IntKind.i64.wrap ((IntKind.i64.wrap (x10 + (x8.length : Int))) + 1)) then (M.bind (quot_guess.f ((x7.drop x10.toNat).take ((IntKind.i64.wrap ((IntKind.i64.wrap (x10 + (x8.length : Int))) + 1)).toNat - x10.toNat)) x8) fun t1 => (if 0 < ((IntKind.i64.wrap ((IntKind.i64.wrap (x10 + (x8.length : Int))) + 1)).toNat - x10.toNat) then (M.bind (quot_less.f ((x7.drop x10.toNat).take ((IntKind.i64.wrap ((IntKind.i64.wrap (x10 + (x8.length : Int))) + 1)).toNat - x10.toNat)) x8 t1) fun t2 => (if t2.1 = true then (if 0 < ((IntKind.i64.wrap ((IntKind.i64.wrap (x10 + (x8.length : Int))) + 1)).toNat - x10.toNat) then (M.bind (quot_more.f (((x7.take x10.toNat ++ t2.2 ++ x7.drop (x10.toNat + ((IntKind.i64.wrap ((IntKind.i64.wrap (x10 + (x8.length : Int))) + 1)).toNat - x10.toNat))).drop x10.toNat).take ((IntKind.i64.wrap ((IntKind.i64.wrap (x10 + (x8.length : Int))) + 1)).toNat - x10.toNat)) x8) fun t3 => (if 0 ≤ x10 then (if x10 < (x9.length : Int) then (quot_long.l0 x6 ((x7.take x10.toNat ++ t2.2 ++ x7.drop (x10.toNat + ((IntKind.i64.wrap ((IntKind.i64.wrap (x10 + (x8.length : Int))) + 1)).toNat - x10.toNat))).take x10.toNat ++ t3.2 ++ (x7.take x10.toNat ++ t2.2 ++ x7.drop (x10.toNat + ((IntKind.i64.wrap ((IntKind.i64.wrap (x10 + (x8.length : Int))) + 1)).toNat - x10.toNat))).drop (x10.toNat + ((IntKind.i64.wrap ((IntKind.i64.wrap (x10 + (x8.length : Int))) + 1)).toNat - x10.toNat))) x8 (x9.set x10.toNat (IntKind.u32.wrap (IntKind.u64.wrap (t1 - 1)))) (IntKind.i64.wrap (x10 - 1))) else M.none) else M.none)) else M.none) else (if 0 ≤ x10 then (if x10 < (x9.length : Int) then (quot_long.l0 x6 (x7.take x10.toNat ++ t2.2 ++ x7.drop (x10.toNat + ((IntKind.i64.wrap ((IntKind.i64.wrap (x10 + (x8.length : Int))) + 1)).toNat - x10.toNat))) x8 (x9.set x10.toNat (IntKind.u32.wrap (t1))) (IntKind.i64.wrap (x10 - 1))) else M.none) else M.none))) else M.none)) else M.none) else M.none) else M.none) else M.none) else M.none) else (if 0 ≤ (x8.length : Int) then (if (x8.length : Int) ≤ (x7.length : Int) then (M.bind (quot_back.f ((x7.drop 0).take ((x8.length : Int).toNat)) x6) fun t4 => (M.ret (x9, t4))) else M.none) else M.none)) := by kernel_rfl
theorem quot_long.f_eq {a0 : List Int} {a1 : List Int} : quot_long.f a0 a1 =
    (if 0 ≤ (IntKind.i64.wrap ((a1.length : Int) - 1)) then (if (IntKind.i64.wrap ((a1.length : Int) - 1)) < (a1.length : Int) then (M.bind (mbits_LeadingZeros32.f (rdI a1 (IntKind.i64.wrap ((a1.length : Int) - 1)))) fun t1 => (M.bind (quot_shifted.f a0 t1) fun t2 => (M.bind (quot_shifted.f a1 t1) fun t3 => (if 0 ≤ (a1.length : Int) then (if (a1.length : Int) ≤ (t3.length : Int) then (if 0 ≤ (IntKind.i64.wrap ((IntKind.i64.wrap ((a0.length : Int) - (a1.length : Int))) + 1)) then (if (IntKind.i64.wrap ((IntKind.i64.wrap ((a0.length : Int) - (a1.length : Int))) + 1)) ≤ 1099511627776 then (quot_long.l0 t1 t2 ((t3.drop 0).take ((a1.length : Int).toNat)) (List.replicate (IntKind.i64.wrap ((IntKind.i64.wrap ((a0.length : Int) - (a1.length : Int))) + 1)).toNat (0 : Int)) (IntKind.i64.wrap (((List.replicate (IntKind.i64.wrap ((IntKind.i64.wrap ((a0.length : Int) - (a1.length : Int))) + 1)).toNat (0 : Int)).length : Int) - 1))) else M.none) else M.none) else M.none) else M.none)))) else M.none) else M.none) := by kernel_rfl
/-! ### quot_Div -/
noncomputable def quot_Div.Γ : Ctx := ⟨tys, fun f => bif Nat.beq f 16 then some nat_Made.ent else (bif Nat.beq f 26 then some nat_Of.ent else (bif Nat.beq f 31 then some nat_Nat_Limbs.ent else (bif Nat.beq f 57 then some quot_small.ent else (bif Nat.beq f 58 then some quot_long.ent else (none))))), globs, eqs⟩
def quot_Div.A : Live := fun i => none
noncomputable def quot_Div.f (a0 : List Int) (a1 : List Int) : M ((List Int) × (List Int) × Bool) := evFn quot_Div.Γ quot_Div.A Try.f42 (.pair (.agg (.lst (.int .u32))) (.agg (.lst (.int .u32)))) (.pair (.agg (.lst (.int .u32))) (.pair (.agg (.lst (.int .u32))) .bool)) (a0, a1)
noncomputable def quot_Div.ent : FnE := .plain (.pair (.agg (.lst (.int .u32))) (.agg (.lst (.int .u32)))) (.pair (.agg (.lst (.int .u32))) (.pair (.agg (.lst (.int .u32))) .bool)) true fun x => quot_Div.f x.1 x.2
theorem quot_Div.f_eq {a0 : List Int} {a1 : List Int} : quot_Div.f a0 a1 =
    (M.bind (nat_Nat_Limbs.f a0) fun t1 => (M.bind (nat_Nat_Limbs.f a1) fun t2 => (if (t2.length : Int) = 0 then (M.ret (([] : List Int), ([] : List Int), false)) else (if (t1.length : Int) < (t2.length : Int) then (M.ret (([] : List Int), a0, true)) else (if (t2.length : Int) = 1 then (if 0 ≤ 0 then (if 0 < (t2.length : Int) then (M.bind (quot_small.f t1 (rdI t2 0)) fun t3 => (M.bind (nat_Made.f t3.1) fun t4 => (M.bind (nat_Of.f (IntKind.u64.wrap (t3.2))) fun t5 => (M.ret (t4, t5, true))))) else M.none) else M.none) else (M.bind (quot_long.f t1 t2) fun t6 => (M.bind (nat_Made.f t6.1) fun t7 => (M.bind (nat_Made.f t6.2) fun t8 => (M.ret (t7, t8, true)))))))))) := by kernel_rfl
/-! ### quot_Half -/
noncomputable def quot_Half.Γ : Ctx := ⟨tys, fun f => bif Nat.beq f 26 then some nat_Of.ent else (bif Nat.beq f 37 then some nat_Cmp.ent else (bif Nat.beq f 38 then some nat_Add.ent else (bif Nat.beq f 42 then some quot_Div.ent else (none)))), globs, eqs⟩
def quot_Half.A : Live := fun i => none
noncomputable def quot_Half.f (a0 : List Int) (a1 : List Int) : M ((List Int) × Bool) := evFn quot_Half.Γ quot_Half.A Try.f46 (.pair (.agg (.lst (.int .u32))) (.agg (.lst (.int .u32)))) (.pair (.agg (.lst (.int .u32))) .bool) (a0, a1)
noncomputable def quot_Half.ent : FnE := .plain (.pair (.agg (.lst (.int .u32))) (.agg (.lst (.int .u32)))) (.pair (.agg (.lst (.int .u32))) .bool) true fun x => quot_Half.f x.1 x.2
theorem quot_Half.f_eq {a0 : List Int} {a1 : List Int} : quot_Half.f a0 a1 =
    (M.bind (quot_Div.f a0 a1) fun t1 => (if t1.2.2 = true then (M.bind (nat_Add.f t1.2.1 t1.2.1) fun t2 => (M.bind (nat_Cmp.f t2 a1) fun t3 => (if t3 ≥ 0 then (M.bind (nat_Of.f 1) fun t4 => (M.bind (nat_Add.f t1.1 t4) fun t5 => (M.ret (t5, t1.2.2)))) else (M.ret (t1.1, t1.2.2))))) else (M.ret (t1.1, t1.2.2)))) := by kernel_rfl
/-! ### quot_Gcd -/
noncomputable def quot_Gcd.Γ : Ctx := ⟨tys, fun f => bif Nat.beq f 33 then some nat_Nat_Bits.ent else (bif Nat.beq f 42 then some quot_Div.ent else (none)), globs, eqs⟩
def quot_Gcd.l0.live : List (Nat × LK) := [(2, .box [(.lst (.int .u32))]), (3, .box [(.lst (.int .u32))]), (4, .box [(.lst (.int .u32))])]
def quot_Gcd.A : Live := fun i => bif Nat.beq i 2 then some quot_Gcd.l0.live else (none)
noncomputable def quot_Gcd.f (a0 : List Int) (a1 : List Int) : M (List Int) := evFn quot_Gcd.Γ quot_Gcd.A Try.f47 (.pair (.agg (.lst (.int .u32))) (.agg (.lst (.int .u32)))) (.agg (.lst (.int .u32))) (a0, a1)
noncomputable def quot_Gcd.ent : FnE := .plain (.pair (.agg (.lst (.int .u32))) (.agg (.lst (.int .u32)))) (.agg (.lst (.int .u32))) false fun x => quot_Gcd.f x.1 x.2
noncomputable def quot_Gcd.l0.c : Code × Kont (List Int) := focus quot_Gcd.Γ quot_Gcd.A (bodyOf Try.f47) (finQ quot_Gcd.Γ Try.f47.results.toList (.agg (.lst (.int .u32)))) [.r, .l, .l]
noncomputable def quot_Gcd.l0 (x2 : List Int) (x3 : List Int) (x4 : List Int) : M (List Int) := loopOf quot_Gcd.Γ quot_Gcd.A quot_Gcd.l0.live quot_Gcd.l0.c (x2, x3, x4)
theorem quot_Gcd.l0_eq {x2 : List Int} {x3 : List Int} {x4 : List Int} :
    roundOf quot_Gcd.Γ quot_Gcd.A quot_Gcd.l0.live quot_Gcd.l0.c (loopOf quot_Gcd.Γ quot_Gcd.A quot_Gcd.l0.live quot_Gcd.l0.c) (x2, x3, x4) =
    (M.bind (nat_Nat_Bits.f x3) fun t1 => (if t1 > 0 then (M.bind (quot_Div.f x2 x3) fun t2 => (quot_Gcd.l0 x3 t2.2.1 x4)) else (M.ret x2))) := by kernel_rfl
theorem quot_Gcd.f_eq {a0 : List Int} {a1 : List Int} : quot_Gcd.f a0 a1 =
    (quot_Gcd.l0 a0 a1 ([] : List Int)) := by kernel_rfl
/-! ### numerarylaw04_wakes -/
noncomputable def numerarylaw04_wakes.Γ : Ctx := ⟨tys, fun f => bif Nat.beq f 26 then some nat_Of.ent else (bif Nat.beq f 28 then some times_Pow.ent else (bif Nat.beq f 29 then some nat_Nat_Small.ent else (bif Nat.beq f 33 then some nat_Nat_Bits.ent else (bif Nat.beq f 42 then some quot_Div.ent else (bif Nat.beq f 46 then some quot_Half.ent else (bif Nat.beq f 47 then some quot_Gcd.ent else (none))))))), globs, eqs⟩
def numerarylaw04_wakes.A : Live := fun i => none
noncomputable def numerarylaw04_wakes.f (_ : Unit) : M Bool := evFn numerarylaw04_wakes.Γ numerarylaw04_wakes.A Try.f43 .nil .bool ()
noncomputable def numerarylaw04_wakes.ent : FnE := .plain .nil .bool false fun x => numerarylaw04_wakes.f ()
theorem numerarylaw04_wakes.f_eq : numerarylaw04_wakes.f () =
    (M.bind (nat_Of.f 10) fun t1 => (M.bind (times_Pow.f t1 20) fun t2 => (M.bind (nat_Of.f 10) fun t3 => (M.bind (times_Pow.f t3 10) fun t4 => (M.bind (quot_Div.f t2 t4) fun t5 => (M.bind (nat_Nat_Small.f t5.1) fun t6 => (M.bind (nat_Of.f 5) fun t7 => (M.bind (nat_Of.f 2) fun t8 => (M.bind (quot_Half.f t7 t8) fun t9 => (M.bind (nat_Nat_Small.f t9.1) fun t10 => (M.bind (nat_Of.f 12) fun t11 => (M.bind (nat_Of.f 18) fun t12 => (M.bind (quot_Gcd.f t11 t12) fun t13 => (M.bind (nat_Nat_Small.f t13) fun t14 => (if t5.2.2 = true then (if t6.2 = true then (if t6.1 = 10000000000 then (M.bind (nat_Nat_Bits.f t5.2.1) fun t15 => (if t15 = 0 then (if t9.2 = true then (if t10.2 = true then (if t10.1 = 3 then (if t14.2 = true then (M.ret (decide (t14.1 = 6))) else (M.ret false)) else (M.ret false)) else (M.ret false)) else (M.ret false)) else (M.ret false))) else (M.ret false)) else (M.ret false)) else (M.ret false)))))))))))))))) := by kernel_rfl
/-! ### numeraryref02_Div -/
noncomputable def numeraryref02_Div.Γ : Ctx := ⟨tys, fun f => bif Nat.beq f 20 then some numeraryref02_Times.ent else (bif Nat.beq f 22 then some numeraryref02_Cmp.ent else (bif Nat.beq f 27 then some numeraryref02_Of.ent else (bif Nat.beq f 39 then some numeraryref02_Add.ent else (bif Nat.beq f 40 then some numeraryref02_Sub.ent else (bif Nat.beq f 50 then some numeraryref02_trim.ent else (none)))))), globs, eqs⟩
def numeraryref02_Div.l0.live : List (Nat × LK) := [(0, .val (.lst (.int .i64))), (1, .val (.lst (.int .i64))), (6, .own true (.int .i64)), (7, .val (.lst (.int .i64))), (8, .val (.int .i64))]
def numeraryref02_Div.l1.live : List (Nat × LK) := [(0, .val (.lst (.int .i64))), (1, .val (.lst (.int .i64))), (6, .own true (.int .i64)), (7, .val (.lst (.int .i64))), (8, .val (.int .i64))]
def numeraryref02_Div.A : Live := fun i => bif Nat.beq i 8 then some numeraryref02_Div.l0.live else (bif Nat.beq i 18 then some numeraryref02_Div.l1.live else (none))
noncomputable def numeraryref02_Div.f (a0 : List Int) (a1 : List Int) : M ((List Int) × List Int) := evFn numeraryref02_Div.Γ numeraryref02_Div.A Try.f44 (.pair (.lst (.int .i64)) (.lst (.int .i64))) (.pair (.lst (.int .i64)) (.lst (.int .i64))) (a0, a1)
noncomputable def numeraryref02_Div.ent : FnE := .plain (.pair (.lst (.int .i64)) (.lst (.int .i64))) (.pair (.lst (.int .i64)) (.lst (.int .i64))) true fun x => numeraryref02_Div.f x.1 x.2
noncomputable def numeraryref02_Div.l0.c : Code × Kont ((List Int) × List Int) := focus numeraryref02_Div.Γ numeraryref02_Div.A (bodyOf Try.f44) (finQ numeraryref02_Div.Γ Try.f44.results.toList (.pair (.lst (.int .i64)) (.lst (.int .i64)))) [.r, .r, .r, .l, .r, .l]
noncomputable def numeraryref02_Div.l0 (x0 : List Int) (x1 : List Int) (x6 : List Int) (x7 : List Int) (x8 : Int) : M ((List Int) × List Int) := loopOf numeraryref02_Div.Γ numeraryref02_Div.A numeraryref02_Div.l0.live numeraryref02_Div.l0.c (x0, x1, x6, x7, x8)
noncomputable def numeraryref02_Div.l1.c : Code × Kont ((List Int) × List Int) := focus numeraryref02_Div.Γ numeraryref02_Div.A (bodyOf Try.f44) (finQ numeraryref02_Div.Γ Try.f44.results.toList (.pair (.lst (.int .i64)) (.lst (.int .i64)))) [.r, .r, .r, .l, .r, .l, .l, .r, .l, .l, .r, .r, .r, .l]
noncomputable def numeraryref02_Div.l1 (x0 : List Int) (x1 : List Int) (x6 : List Int) (x7 : List Int) (x8 : Int) : M ((List Int) × List Int) := loopOf numeraryref02_Div.Γ numeraryref02_Div.A numeraryref02_Div.l1.live numeraryref02_Div.l1.c (x0, x1, x6, x7, x8)
theorem numeraryref02_Div.l0_eq {x0 : List Int} {x1 : List Int} {x6 : List Int} {x7 : List Int} {x8 : Int} :
    roundOf numeraryref02_Div.Γ numeraryref02_Div.A numeraryref02_Div.l0.live numeraryref02_Div.l0.c (loopOf numeraryref02_Div.Γ numeraryref02_Div.A numeraryref02_Div.l0.live numeraryref02_Div.l0.c) (x0, x1, x6, x7, x8) =
    (if x8 ≥ 0 then (M.bind (numeraryref02_Times.f x7 10) fun t1 => (if 0 ≤ x8 then (if x8 < (x0.length : Int) then (M.bind (numeraryref02_Of.f (IntKind.u64.wrap (rdI x0 x8))) fun t2 => (M.bind (numeraryref02_Add.f t1 t2) fun t3 => (numeraryref02_Div.l1 x0 x1 x6 t3 x8))) else M.none) else M.none)) else (M.bind (numeraryref02_trim.f x6) fun t4 => (M.ret (t4, x7)))) := by kernel_rfl
theorem numeraryref02_Div.l1_eq {x0 : List Int} {x1 : List Int} {x6 : List Int} {x7 : List Int} {x8 : Int} :
    roundOf numeraryref02_Div.Γ numeraryref02_Div.A numeraryref02_Div.l1.live numeraryref02_Div.l1.c (loopOf numeraryref02_Div.Γ numeraryref02_Div.A numeraryref02_Div.l1.live numeraryref02_Div.l1.c) (x0, x1, x6, x7, x8) =
    (M.bind (numeraryref02_Cmp.f x7 x1) fun t1 => (if t1 < 0 then (numeraryref02_Div.l0 x0 x1 x6 x7 (IntKind.i64.wrap (x8 - 1))) else (M.bind (numeraryref02_Sub.f x7 x1) fun t2 => (if 0 ≤ x8 then (if x8 < (x6.length : Int) then (if 0 ≤ x8 then (if x8 < (x6.length : Int) then (numeraryref02_Div.l1 x0 x1 (x6.set x8.toNat (IntKind.i64.wrap ((x6.getD x8.toNat 0) + 1))) t2 x8) else M.none) else M.none) else M.none) else M.none)))) := by kernel_rfl
theorem numeraryref02_Div.f_eq {a0 : List Int} {a1 : List Int} : numeraryref02_Div.f a0 a1 =
    (if 0 ≤ (a0.length : Int) then (if (a0.length : Int) ≤ 1099511627776 then (numeraryref02_Div.l0 a0 a1 (List.replicate (a0.length : Int).toNat (0 : Int)) ([] : List Int) (IntKind.i64.wrap ((a0.length : Int) - 1))) else M.none) else M.none) := by kernel_rfl
/-! ### numerarylaw04_of -/
noncomputable def numerarylaw04_of.Γ : Ctx := ⟨tys, fun f => bif Nat.beq f 18 then some numeraryref02_Made.ent else (bif Nat.beq f 31 then some nat_Nat_Limbs.ent else (none)), globs, eqs⟩
def numerarylaw04_of.A : Live := fun i => none
noncomputable def numerarylaw04_of.f (a0 : List Int) : M (List Int) := evFn numerarylaw04_of.Γ numerarylaw04_of.A Try.f45 (.agg (.lst (.int .u32))) (.lst (.int .i64)) a0
noncomputable def numerarylaw04_of.ent : FnE := .plain (.agg (.lst (.int .u32))) (.lst (.int .i64)) false fun x => numerarylaw04_of.f x
theorem numerarylaw04_of.f_eq {a0 : List Int} : numerarylaw04_of.f a0 =
    (M.bind (nat_Nat_Limbs.f a0) fun t1 => (M.bind (numeraryref02_Made.f t1) fun t2 => (M.ret t2))) := by kernel_rfl
/-! ### numerarylaw04_QuotGcd -/
noncomputable def numerarylaw04_QuotGcd.Γ : Ctx := ⟨tys, fun f => bif Nat.beq f 16 then some nat_Made.ent else (bif Nat.beq f 24 then some times_Mul.ent else (bif Nat.beq f 26 then some nat_Of.ent else (bif Nat.beq f 29 then some nat_Nat_Small.ent else (bif Nat.beq f 33 then some nat_Nat_Bits.ent else (bif Nat.beq f 37 then some nat_Cmp.ent else (bif Nat.beq f 38 then some nat_Add.ent else (bif Nat.beq f 41 then some numerarylaw04_few.ent else (bif Nat.beq f 42 then some quot_Div.ent else (bif Nat.beq f 43 then some numerarylaw04_wakes.ent else (bif Nat.beq f 47 then some quot_Gcd.ent else (none))))))))))), globs, eqs⟩
def numerarylaw04_QuotGcd.A : Live := fun i => none
noncomputable def numerarylaw04_QuotGcd.f (a0 : List Int) (a1 : List Int) (a2 : Int) : M Bool := evFn numerarylaw04_QuotGcd.Γ numerarylaw04_QuotGcd.A Try.f15 (.pair (.lst (.int .u32)) (.pair (.lst (.int .u32)) (.int .u32))) .bool (a0, a1, a2)
noncomputable def numerarylaw04_QuotGcd.ent : FnE := .plain (.pair (.lst (.int .u32)) (.pair (.lst (.int .u32)) (.int .u32))) .bool false fun x => numerarylaw04_QuotGcd.f x.1 x.2.1 x.2.2
theorem numerarylaw04_QuotGcd.f_eq {a0 : List Int} {a1 : List Int} {a2 : Int} : numerarylaw04_QuotGcd.f a0 a1 a2 =
    (M.bind (nat_Of.f (IntKind.u64.wrap (a2))) fun t1 => (M.bind (numerarylaw04_few.f a0 6) fun t2 => (M.bind (nat_Made.f t2) fun t3 => (M.bind (times_Mul.f t3 t1) fun t4 => (M.bind (numerarylaw04_few.f a1 6) fun t5 => (M.bind (nat_Made.f t5) fun t6 => (M.bind (times_Mul.f t6 t1) fun t7 => (M.bind (quot_Gcd.f t4 t7) fun t8 => (M.bind (quot_Gcd.f t7 t4) fun t9 => (M.bind (nat_Cmp.f t8 t9) fun t10 => (if t10 ≠ 0 then (M.ret false) else (M.bind (nat_Nat_Bits.f t4) fun t11 => (if t11 = 0 then (M.bind (numerarylaw04_wakes.f ()) fun t12 => (if t12 = true then (M.bind (nat_Add.f t4 t7) fun t13 => (M.bind (nat_Cmp.f t8 t13) fun t14 => (M.ret (decide (t14 = 0))))) else (M.ret false))) else (M.bind (nat_Nat_Bits.f t7) fun t15 => (if t15 = 0 then (M.bind (numerarylaw04_wakes.f ()) fun t16 => (if t16 = true then (M.bind (nat_Add.f t4 t7) fun t17 => (M.bind (nat_Cmp.f t8 t17) fun t18 => (M.ret (decide (t18 = 0))))) else (M.ret false))) else (M.bind (quot_Div.f t4 t8) fun t19 => (M.bind (quot_Div.f t7 t8) fun t20 => (M.bind (quot_Div.f t8 t1) fun t21 => (M.bind (quot_Gcd.f t19.1 t20.1) fun t22 => (M.bind (nat_Nat_Small.f t22) fun t23 => (M.bind (numerarylaw04_wakes.f ()) fun t24 => (if t24 = true then (if t19.2.2 = true then (if t20.2.2 = true then (if t21.2.2 = true then (M.bind (nat_Nat_Bits.f t19.2.1) fun t25 => (M.bind (nat_Nat_Bits.f t20.2.1) fun t26 => (M.bind (nat_Nat_Bits.f t21.2.1) fun t27 => (if (IntKind.i64.wrap ((IntKind.i64.wrap (t25 + t26)) + t27)) = 0 then (if t23.2 = true then (M.ret (decide (t23.1 = 1))) else (M.ret false)) else (M.ret false))))) else (M.ret false)) else (M.ret false)) else (M.ret false)) else (M.ret false))))))))))))))))))))))) := by kernel_rfl
end Go.Proofs.Ytcepdndhkidehaa.F
