import Derived.Test.YtcepdndhkidehaaDoorQTensBackN0
import Derived.Test.YtcepdndhkidehaaDoorProg
import Derived.KernelRfl
namespace Go.Proofs.YtcepdndhkidehaaDoor.F
open Go Go.Proofs Go.Proofs.YtcepdndhkidehaaDoor.E
set_option linter.unusedVariables false
def tys : TypeId → TI := tyIf 3 (.int .i64) (tyIf 4 (.bool) (tyIf 5 (.int .u8) (tyIf 9 (.str) (tyIf 22 (.slice 3 (.int .i64) 1 8) (tyIf 24 (.slice 50 (.int .u32) 1 4) (tyIf 26 (.struct [(0, 1)] 1 [.t .nil ()]) (tyIf 28 (.int .u64) (tyIf 46 (.int .u16) (tyIf 50 (.int .u32) (tyIf 66 (.arr 5 (.int .u8) 1 32) (fun _ => .unk)))))))))))
def eqs : TypeId → Option Ty := fun i => none
def tab0 : List Int := [0, 1, 28, 2, 29, 14, 24, 3, 30, 22, 20, 15, 25, 17, 4, 8, 31, 27, 13, 23, 21, 19, 16, 7, 26, 12, 18, 6, 11, 5, 10, 9]
def globs : Nat → Option (IntKind × List Int) := fun i => bif Nat.beq i 0 then some (.u8, tab0) else (none)
/-! ### numeraryref02_Of -/
noncomputable def numeraryref02_Of.Γ : Ctx := ⟨tys, fun f => none, globs, eqs⟩
def numeraryref02_Of.l0.live : List (Nat × LK) := [(0, .val (.int .u64)), (3, .own true (.int .i64))]
def numeraryref02_Of.A : Live := fun i => bif Nat.beq i 4 then some numeraryref02_Of.l0.live else (none)
noncomputable def numeraryref02_Of.f (a0 : Int) : M (List Int) := evFn numeraryref02_Of.Γ numeraryref02_Of.A Tryd.f14 (.int .u64) (.lst (.int .i64)) a0
noncomputable def numeraryref02_Of.ent : FnE := .plain (.int .u64) (.lst (.int .i64)) false fun x => numeraryref02_Of.f x
noncomputable def numeraryref02_Of.l0.c : Code × Kont (List Int) := focus numeraryref02_Of.Γ numeraryref02_Of.A (bodyOf Tryd.f14) (finQ numeraryref02_Of.Γ Tryd.f14.results.toList (.lst (.int .i64))) [.r, .r, .l, .l]
noncomputable def numeraryref02_Of.l0 (x0 : Int) (x3 : List Int) : M (List Int) := loopOf numeraryref02_Of.Γ numeraryref02_Of.A numeraryref02_Of.l0.live numeraryref02_Of.l0.c (x0, x3)
theorem numeraryref02_Of.l0_eq {x0 : Int} {x3 : List Int} :
    roundOf numeraryref02_Of.Γ numeraryref02_Of.A numeraryref02_Of.l0.live numeraryref02_Of.l0.c (loopOf numeraryref02_Of.Γ numeraryref02_Of.A numeraryref02_Of.l0.live numeraryref02_Of.l0.c) (x0, x3) =
    (if x0 > 0 then (if x3.length + ([IntKind.i64.wrap (x0.tmod 10)] : List Int).length ≤ 1099511627776 then (numeraryref02_Of.l0 (IntKind.u64.wrap (x0.tdiv 10)) (x3 ++ ([IntKind.i64.wrap (x0.tmod 10)] : List Int))) else M.none) else (M.ret x3)) := by kernel_rfl
theorem numeraryref02_Of.f_eq {a0 : Int} : numeraryref02_Of.f a0 =
    (numeraryref02_Of.l0 a0 ([] : List Int)) := by kernel_rfl
/-! ### numeraryref02_at -/
noncomputable def numeraryref02_at.Γ : Ctx := ⟨tys, fun f => none, globs, eqs⟩
def numeraryref02_at.A : Live := fun i => none
noncomputable def numeraryref02_at.f (a0 : List Int) (a1 : Int) : M Int := evFn numeraryref02_at.Γ numeraryref02_at.A Tryd.f29 (.pair (.lst (.int .i64)) (.int .i64)) (.int .i64) (a0, a1)
noncomputable def numeraryref02_at.ent : FnE := .plain (.pair (.lst (.int .i64)) (.int .i64)) (.int .i64) false fun x => numeraryref02_at.f x.1 x.2
theorem numeraryref02_at.f_eq {a0 : List Int} {a1 : Int} : numeraryref02_at.f a0 a1 =
    (if a1 < (a0.length : Int) then (if 0 ≤ a1 then (if a1 < (a0.length : Int) then (M.ret (rdI a0 a1)) else M.none) else M.none) else (M.ret 0)) := by kernel_rfl
/-! ### numeraryref02_trim -/
noncomputable def numeraryref02_trim.Γ : Ctx := ⟨tys, fun f => none, globs, eqs⟩
def numeraryref02_trim.l0.live : List (Nat × LK) := [(0, .val (.lst (.int .i64))), (3, .val (.int .i64))]
def numeraryref02_trim.A : Live := fun i => bif Nat.beq i 4 then some numeraryref02_trim.l0.live else (none)
noncomputable def numeraryref02_trim.f (a0 : List Int) : M (List Int) := evFn numeraryref02_trim.Γ numeraryref02_trim.A Tryd.f30 (.lst (.int .i64)) (.lst (.int .i64)) a0
noncomputable def numeraryref02_trim.ent : FnE := .plain (.lst (.int .i64)) (.lst (.int .i64)) false fun x => numeraryref02_trim.f x
noncomputable def numeraryref02_trim.l0.c : Code × Kont (List Int) := focus numeraryref02_trim.Γ numeraryref02_trim.A (bodyOf Tryd.f30) (finQ numeraryref02_trim.Γ Tryd.f30.results.toList (.lst (.int .i64))) [.r, .r, .l, .l]
noncomputable def numeraryref02_trim.l0 (x0 : List Int) (x3 : Int) : M (List Int) := loopOf numeraryref02_trim.Γ numeraryref02_trim.A numeraryref02_trim.l0.live numeraryref02_trim.l0.c (x0, x3)
theorem numeraryref02_trim.l0_eq {x0 : List Int} {x3 : Int} :
    roundOf numeraryref02_trim.Γ numeraryref02_trim.A numeraryref02_trim.l0.live numeraryref02_trim.l0.c (loopOf numeraryref02_trim.Γ numeraryref02_trim.A numeraryref02_trim.l0.live numeraryref02_trim.l0.c) (x0, x3) =
    (if x3 > 0 then (if 0 ≤ (IntKind.i64.wrap (x3 - 1)) then (if (IntKind.i64.wrap (x3 - 1)) < (x0.length : Int) then (if (rdI x0 (IntKind.i64.wrap (x3 - 1))) = 0 then (numeraryref02_trim.l0 x0 (IntKind.i64.wrap (x3 - 1))) else (if 0 ≤ x3 then (if x3 ≤ (x0.length : Int) then (M.ret (x0.take x3.toNat)) else M.none) else M.none)) else M.none) else M.none) else (if 0 ≤ x3 then (if x3 ≤ (x0.length : Int) then (M.ret (x0.take x3.toNat)) else M.none) else M.none)) := by kernel_rfl
theorem numeraryref02_trim.f_eq {a0 : List Int} : numeraryref02_trim.f a0 =
    (numeraryref02_trim.l0 a0 (a0.length : Int)) := by kernel_rfl
/-! ### numeraryref02_Times -/
noncomputable def numeraryref02_Times.Γ : Ctx := ⟨tys, fun f => bif Nat.beq f 29 then some numeraryref02_at.ent else (bif Nat.beq f 30 then some numeraryref02_trim.ent else (none)), globs, eqs⟩
def numeraryref02_Times.l0.live : List (Nat × LK) := [(0, .val (.lst (.int .i64))), (1, .val (.int .i64)), (5, .own true (.int .i64)), (6, .val (.int .i64)), (7, .val (.int .i64))]
def numeraryref02_Times.A : Live := fun i => bif Nat.beq i 8 then some numeraryref02_Times.l0.live else (none)
noncomputable def numeraryref02_Times.f (a0 : List Int) (a1 : Int) : M (List Int) := evFn numeraryref02_Times.Γ numeraryref02_Times.A Tryd.f15 (.pair (.lst (.int .i64)) (.int .i64)) (.lst (.int .i64)) (a0, a1)
noncomputable def numeraryref02_Times.ent : FnE := .plain (.pair (.lst (.int .i64)) (.int .i64)) (.lst (.int .i64)) false fun x => numeraryref02_Times.f x.1 x.2
noncomputable def numeraryref02_Times.l0.c : Code × Kont (List Int) := focus numeraryref02_Times.Γ numeraryref02_Times.A (bodyOf Tryd.f15) (finQ numeraryref02_Times.Γ Tryd.f15.results.toList (.lst (.int .i64))) [.r, .r, .r, .l, .r, .l]
noncomputable def numeraryref02_Times.l0 (x0 : List Int) (x1 : Int) (x5 : List Int) (x6 : Int) (x7 : Int) : M (List Int) := loopOf numeraryref02_Times.Γ numeraryref02_Times.A numeraryref02_Times.l0.live numeraryref02_Times.l0.c (x0, x1, x5, x6, x7)
theorem numeraryref02_Times.l0_eq {x0 : List Int} {x1 : Int} {x5 : List Int} {x6 : Int} {x7 : Int} :
    roundOf numeraryref02_Times.Γ numeraryref02_Times.A numeraryref02_Times.l0.live numeraryref02_Times.l0.c (loopOf numeraryref02_Times.Γ numeraryref02_Times.A numeraryref02_Times.l0.live numeraryref02_Times.l0.c) (x0, x1, x5, x6, x7) =
    (if x7 < (x0.length : Int) then (M.bind (numeraryref02_at.f x0 x7) fun t1 => (if x5.length + ([(IntKind.i64.wrap (x6 + (IntKind.i64.wrap (t1 * x1)))).tmod 10] : List Int).length ≤ 1099511627776 then (numeraryref02_Times.l0 x0 x1 (x5 ++ ([(IntKind.i64.wrap (x6 + (IntKind.i64.wrap (t1 * x1)))).tmod 10] : List Int)) (IntKind.i64.wrap ((IntKind.i64.wrap (x6 + (IntKind.i64.wrap (t1 * x1)))).tdiv 10)) (IntKind.i64.wrap (x7 + 1))) else M.none)) else (if x6 > 0 then (M.bind (numeraryref02_at.f x0 x7) fun t2 => (if x5.length + ([(IntKind.i64.wrap (x6 + (IntKind.i64.wrap (t2 * x1)))).tmod 10] : List Int).length ≤ 1099511627776 then (numeraryref02_Times.l0 x0 x1 (x5 ++ ([(IntKind.i64.wrap (x6 + (IntKind.i64.wrap (t2 * x1)))).tmod 10] : List Int)) (IntKind.i64.wrap ((IntKind.i64.wrap (x6 + (IntKind.i64.wrap (t2 * x1)))).tdiv 10)) (IntKind.i64.wrap (x7 + 1))) else M.none)) else (M.bind (numeraryref02_trim.f x5) fun t3 => (M.ret t3)))) := by kernel_rfl
theorem numeraryref02_Times.f_eq {a0 : List Int} {a1 : Int} : numeraryref02_Times.f a0 a1 =
    (numeraryref02_Times.l0 a0 a1 ([] : List Int) 0 0) := by kernel_rfl
/-! ### numeraryref02_Add -/
noncomputable def numeraryref02_Add.Γ : Ctx := ⟨tys, fun f => bif Nat.beq f 29 then some numeraryref02_at.ent else (bif Nat.beq f 30 then some numeraryref02_trim.ent else (none)), globs, eqs⟩
def numeraryref02_Add.l0.live : List (Nat × LK) := [(0, .val (.lst (.int .i64))), (1, .val (.lst (.int .i64))), (5, .own true (.int .i64)), (6, .val (.int .i64)), (7, .val (.int .i64))]
def numeraryref02_Add.A : Live := fun i => bif Nat.beq i 8 then some numeraryref02_Add.l0.live else (none)
noncomputable def numeraryref02_Add.f (a0 : List Int) (a1 : List Int) : M (List Int) := evFn numeraryref02_Add.Γ numeraryref02_Add.A Tryd.f28 (.pair (.lst (.int .i64)) (.lst (.int .i64))) (.lst (.int .i64)) (a0, a1)
noncomputable def numeraryref02_Add.ent : FnE := .plain (.pair (.lst (.int .i64)) (.lst (.int .i64))) (.lst (.int .i64)) false fun x => numeraryref02_Add.f x.1 x.2
noncomputable def numeraryref02_Add.l0.c : Code × Kont (List Int) := focus numeraryref02_Add.Γ numeraryref02_Add.A (bodyOf Tryd.f28) (finQ numeraryref02_Add.Γ Tryd.f28.results.toList (.lst (.int .i64))) [.r, .r, .r, .l, .r, .l]
noncomputable def numeraryref02_Add.l0 (x0 : List Int) (x1 : List Int) (x5 : List Int) (x6 : Int) (x7 : Int) : M (List Int) := loopOf numeraryref02_Add.Γ numeraryref02_Add.A numeraryref02_Add.l0.live numeraryref02_Add.l0.c (x0, x1, x5, x6, x7)
theorem numeraryref02_Add.l0_eq {x0 : List Int} {x1 : List Int} {x5 : List Int} {x6 : Int} {x7 : Int} :
    roundOf numeraryref02_Add.Γ numeraryref02_Add.A numeraryref02_Add.l0.live numeraryref02_Add.l0.c (loopOf numeraryref02_Add.Γ numeraryref02_Add.A numeraryref02_Add.l0.live numeraryref02_Add.l0.c) (x0, x1, x5, x6, x7) =
    (if x7 < (x0.length : Int) then (M.bind (numeraryref02_at.f x0 x7) fun t1 => (M.bind (numeraryref02_at.f x1 x7) fun t2 => (if x5.length + ([(IntKind.i64.wrap ((IntKind.i64.wrap (x6 + t1)) + t2)).tmod 10] : List Int).length ≤ 1099511627776 then (numeraryref02_Add.l0 x0 x1 (x5 ++ ([(IntKind.i64.wrap ((IntKind.i64.wrap (x6 + t1)) + t2)).tmod 10] : List Int)) (IntKind.i64.wrap ((IntKind.i64.wrap ((IntKind.i64.wrap (x6 + t1)) + t2)).tdiv 10)) (IntKind.i64.wrap (x7 + 1))) else M.none))) else (if x7 < (x1.length : Int) then (M.bind (numeraryref02_at.f x0 x7) fun t3 => (M.bind (numeraryref02_at.f x1 x7) fun t4 => (if x5.length + ([(IntKind.i64.wrap ((IntKind.i64.wrap (x6 + t3)) + t4)).tmod 10] : List Int).length ≤ 1099511627776 then (numeraryref02_Add.l0 x0 x1 (x5 ++ ([(IntKind.i64.wrap ((IntKind.i64.wrap (x6 + t3)) + t4)).tmod 10] : List Int)) (IntKind.i64.wrap ((IntKind.i64.wrap ((IntKind.i64.wrap (x6 + t3)) + t4)).tdiv 10)) (IntKind.i64.wrap (x7 + 1))) else M.none))) else (if x6 > 0 then (M.bind (numeraryref02_at.f x0 x7) fun t5 => (M.bind (numeraryref02_at.f x1 x7) fun t6 => (if x5.length + ([(IntKind.i64.wrap ((IntKind.i64.wrap (x6 + t5)) + t6)).tmod 10] : List Int).length ≤ 1099511627776 then (numeraryref02_Add.l0 x0 x1 (x5 ++ ([(IntKind.i64.wrap ((IntKind.i64.wrap (x6 + t5)) + t6)).tmod 10] : List Int)) (IntKind.i64.wrap ((IntKind.i64.wrap ((IntKind.i64.wrap (x6 + t5)) + t6)).tdiv 10)) (IntKind.i64.wrap (x7 + 1))) else M.none))) else (M.bind (numeraryref02_trim.f x5) fun t7 => (M.ret t7))))) := by kernel_rfl
theorem numeraryref02_Add.f_eq {a0 : List Int} {a1 : List Int} : numeraryref02_Add.f a0 a1 =
    (numeraryref02_Add.l0 a0 a1 ([] : List Int) 0 0) := by kernel_rfl
/-! ### numeraryref02_Made -/
noncomputable def numeraryref02_Made.Γ : Ctx := ⟨tys, fun f => bif Nat.beq f 14 then some numeraryref02_Of.ent else (bif Nat.beq f 15 then some numeraryref02_Times.ent else (bif Nat.beq f 28 then some numeraryref02_Add.ent else (none))), globs, eqs⟩
def numeraryref02_Made.l0.live : List (Nat × LK) := [(0, .val (.lst (.int .u32))), (3, .val (.lst (.int .i64))), (4, .val (.int .i64))]
def numeraryref02_Made.A : Live := fun i => bif Nat.beq i 6 then some numeraryref02_Made.l0.live else (none)
noncomputable def numeraryref02_Made.f (a0 : List Int) : M (List Int) := evFn numeraryref02_Made.Γ numeraryref02_Made.A Tryd.f13 (.lst (.int .u32)) (.lst (.int .i64)) a0
noncomputable def numeraryref02_Made.ent : FnE := .plain (.lst (.int .u32)) (.lst (.int .i64)) false fun x => numeraryref02_Made.f x
noncomputable def numeraryref02_Made.l0.c : Code × Kont (List Int) := focus numeraryref02_Made.Γ numeraryref02_Made.A (bodyOf Tryd.f13) (finQ numeraryref02_Made.Γ Tryd.f13.results.toList (.lst (.int .i64))) [.r, .r, .l, .r, .l]
noncomputable def numeraryref02_Made.l0 (x0 : List Int) (x3 : List Int) (x4 : Int) : M (List Int) := loopOf numeraryref02_Made.Γ numeraryref02_Made.A numeraryref02_Made.l0.live numeraryref02_Made.l0.c (x0, x3, x4)
theorem numeraryref02_Made.l0_eq {x0 : List Int} {x3 : List Int} {x4 : Int} :
    roundOf numeraryref02_Made.Γ numeraryref02_Made.A numeraryref02_Made.l0.live numeraryref02_Made.l0.c (loopOf numeraryref02_Made.Γ numeraryref02_Made.A numeraryref02_Made.l0.live numeraryref02_Made.l0.c) (x0, x3, x4) =
    (if x4 ≥ 0 then (M.bind (numeraryref02_Times.f x3 4294967296) fun t1 => (if 0 ≤ x4 then (if x4 < (x0.length : Int) then (M.bind (numeraryref02_Of.f (IntKind.u64.wrap (rdI x0 x4))) fun t2 => (M.bind (numeraryref02_Add.f t1 t2) fun t3 => (numeraryref02_Made.l0 x0 t3 (IntKind.i64.wrap (x4 - 1))))) else M.none) else M.none)) else (M.ret x3)) := by kernel_rfl
theorem numeraryref02_Made.f_eq {a0 : List Int} : numeraryref02_Made.f a0 =
    (numeraryref02_Made.l0 a0 ([] : List Int) (IntKind.i64.wrap ((a0.length : Int) - 1))) := by kernel_rfl
/-! ### slices_Clone_uint32_uint32 -/
noncomputable def slices_Clone_uint32_uint32.Γ : Ctx := ⟨tys, fun f => none, globs, eqs⟩
def slices_Clone_uint32_uint32.A : Live := fun i => none
noncomputable def slices_Clone_uint32_uint32.f (a0 : List Int) : M (List Int) := evFn slices_Clone_uint32_uint32.Γ slices_Clone_uint32_uint32.A Tryd.f27 (.lst (.int .u32)) (.lst (.int .u32)) a0
noncomputable def slices_Clone_uint32_uint32.ent : FnE := .plain (.lst (.int .u32)) (.lst (.int .u32)) false fun x => slices_Clone_uint32_uint32.f x
theorem slices_Clone_uint32_uint32.f_eq {a0 : List Int} : slices_Clone_uint32_uint32.f a0 =
    (M.nq (a0 = []) (M.ret ([] : List Int)) (if ([] : List Int).length + a0.length ≤ 1099511627776 then (M.ret (([] : List Int) ++ a0)) else M.none)) := by kernel_rfl
/-! ### nat_Nat_Limbs -/
noncomputable def nat_Nat_Limbs.Γ : Ctx := ⟨tys, fun f => bif Nat.beq f 27 then some slices_Clone_uint32_uint32.ent else (none), globs, eqs⟩
def nat_Nat_Limbs.A : Live := fun i => none
noncomputable def nat_Nat_Limbs.f (a0 : List Int) : M (List Int) := evFn nat_Nat_Limbs.Γ nat_Nat_Limbs.A Tryd.f23 (.agg (.lst (.int .u32))) (.lst (.int .u32)) a0
noncomputable def nat_Nat_Limbs.ent : FnE := .plain (.agg (.lst (.int .u32))) (.lst (.int .u32)) false fun x => nat_Nat_Limbs.f x
theorem nat_Nat_Limbs.f_eq {a0 : List Int} : nat_Nat_Limbs.f a0 =
    (M.bind (slices_Clone_uint32_uint32.f a0) fun t1 => (M.ret t1)) := by kernel_rfl
/-! ### numerarylaw05_of -/
noncomputable def numerarylaw05_of.Γ : Ctx := ⟨tys, fun f => bif Nat.beq f 13 then some numeraryref02_Made.ent else (bif Nat.beq f 23 then some nat_Nat_Limbs.ent else (none)), globs, eqs⟩
def numerarylaw05_of.A : Live := fun i => none
noncomputable def numerarylaw05_of.f (a0 : List Int) : M (List Int) := evFn numerarylaw05_of.Γ numerarylaw05_of.A Tryd.f7 (.agg (.lst (.int .u32))) (.lst (.int .i64)) a0
noncomputable def numerarylaw05_of.ent : FnE := .plain (.agg (.lst (.int .u32))) (.lst (.int .i64)) false fun x => numerarylaw05_of.f x
theorem numerarylaw05_of.f_eq {a0 : List Int} : numerarylaw05_of.f a0 =
    (M.bind (nat_Nat_Limbs.f a0) fun t1 => (M.bind (numeraryref02_Made.f t1) fun t2 => (M.ret t2))) := by kernel_rfl
/-! ### nat_Made -/
noncomputable def nat_Made.Γ : Ctx := ⟨tys, fun f => bif Nat.beq f 27 then some slices_Clone_uint32_uint32.ent else (none), globs, eqs⟩
def nat_Made.l0.live : List (Nat × LK) := [(0, .val (.lst (.int .u32))), (2, .box [(.lst (.int .u32))]), (3, .val (.int .i64))]
def nat_Made.A : Live := fun i => bif Nat.beq i 4 then some nat_Made.l0.live else (none)
noncomputable def nat_Made.f (a0 : List Int) : M (List Int) := evFn nat_Made.Γ nat_Made.A Tryd.f11 (.lst (.int .u32)) (.agg (.lst (.int .u32))) a0
noncomputable def nat_Made.ent : FnE := .plain (.lst (.int .u32)) (.agg (.lst (.int .u32))) false fun x => nat_Made.f x
noncomputable def nat_Made.l0.c : Code × Kont (List Int) := focus nat_Made.Γ nat_Made.A (bodyOf Tryd.f11) (finQ nat_Made.Γ Tryd.f11.results.toList (.agg (.lst (.int .u32)))) [.r, .r, .l, .l]
noncomputable def nat_Made.l0 (x0 : List Int) (x2 : List Int) (x3 : Int) : M (List Int) := loopOf nat_Made.Γ nat_Made.A nat_Made.l0.live nat_Made.l0.c (x0, x2, x3)
theorem nat_Made.l0_eq {x0 : List Int} {x2 : List Int} {x3 : Int} :
    roundOf nat_Made.Γ nat_Made.A nat_Made.l0.live nat_Made.l0.c (loopOf nat_Made.Γ nat_Made.A nat_Made.l0.live nat_Made.l0.c) (x0, x2, x3) =
    (if x3 > 0 then (if 0 ≤ (IntKind.i64.wrap (x3 - 1)) then (if (IntKind.i64.wrap (x3 - 1)) < (x0.length : Int) then (if (rdI x0 (IntKind.i64.wrap (x3 - 1))) = 0 then (nat_Made.l0 x0 x2 (IntKind.i64.wrap (x3 - 1))) else (if 0 ≤ x3 then (if x3 ≤ (x0.length : Int) then (M.bind (slices_Clone_uint32_uint32.f (x0.take x3.toNat)) fun t1 => (M.ret t1)) else M.none) else M.none)) else M.none) else M.none) else (if 0 ≤ x3 then (if x3 ≤ (x0.length : Int) then (M.bind (slices_Clone_uint32_uint32.f (x0.take x3.toNat)) fun t2 => (M.ret t2)) else M.none) else M.none)) := by kernel_rfl
theorem nat_Made.f_eq {a0 : List Int} : nat_Made.f a0 =
    (nat_Made.l0 a0 ([] : List Int) (a0.length : Int)) := by kernel_rfl
/-! ### nat_Of -/
noncomputable def nat_Of.Γ : Ctx := ⟨tys, fun f => bif Nat.beq f 11 then some nat_Made.ent else (none), globs, eqs⟩
def nat_Of.A : Live := fun i => none
noncomputable def nat_Of.f (a0 : Int) : M (List Int) := evFn nat_Of.Γ nat_Of.A Tryd.f24 (.int .u64) (.agg (.lst (.int .u32))) a0
noncomputable def nat_Of.ent : FnE := .plain (.int .u64) (.agg (.lst (.int .u32))) false fun x => nat_Of.f x
theorem nat_Of.f_eq {a0 : Int} : nat_Of.f a0 =
    (M.bind (nat_Made.f ([IntKind.u32.wrap (a0), IntKind.u32.wrap (a0.fdiv (2 ^ 32))] : List Int)) fun t1 => (M.ret t1)) := by kernel_rfl
/-! ### times_Mul -/
noncomputable def times_Mul.Γ : Ctx := ⟨tys, fun f => bif Nat.beq f 11 then some nat_Made.ent else (bif Nat.beq f 23 then some nat_Nat_Limbs.ent else (none)), globs, eqs⟩
def times_Mul.l0.live : List (Nat × LK) := [(4, .box [(.lst (.int .u32))]), (6, .val (.lst (.int .u32))), (7, .own true (.int .u32)), (23, .val (.lst (.int .u32))), (24, .val (.int .i64)), (25, .val (.int .i64))]
def times_Mul.l1.live : List (Nat × LK) := [(4, .box [(.lst (.int .u32))]), (6, .val (.lst (.int .u32))), (7, .own true (.int .u32)), (8, .val (.int .i64)), (9, .val (.int .u32)), (10, .val (.int .u64)), (23, .val (.lst (.int .u32))), (24, .val (.int .i64)), (25, .val (.int .i64)), (30, .val (.lst (.int .u32))), (31, .val (.int .i64)), (32, .val (.int .i64))]
def times_Mul.A : Live := fun i => bif Nat.beq i 8 then some times_Mul.l0.live else (bif Nat.beq i 16 then some times_Mul.l1.live else (none))
noncomputable def times_Mul.f (a0 : List Int) (a1 : List Int) : M (List Int) := evFn times_Mul.Γ times_Mul.A Tryd.f38 (.pair (.agg (.lst (.int .u32))) (.agg (.lst (.int .u32)))) (.agg (.lst (.int .u32))) (a0, a1)
noncomputable def times_Mul.ent : FnE := .plain (.pair (.agg (.lst (.int .u32))) (.agg (.lst (.int .u32)))) (.agg (.lst (.int .u32))) false fun x => times_Mul.f x.1 x.2
noncomputable def times_Mul.l0.c : Code × Kont (List Int) := focus times_Mul.Γ times_Mul.A (bodyOf Tryd.f38) (finQ times_Mul.Γ Tryd.f38.results.toList (.agg (.lst (.int .u32)))) [.r, .r, .r, .l, .r, .l]
noncomputable def times_Mul.l0 (x4 : List Int) (x6 : List Int) (x7 : List Int) (x23 : List Int) (x24 : Int) (x25 : Int) : M (List Int) := loopOf times_Mul.Γ times_Mul.A times_Mul.l0.live times_Mul.l0.c (x4, x6, x7, x23, x24, x25)
noncomputable def times_Mul.l1.c : Code × Kont (List Int) := focus times_Mul.Γ times_Mul.A (bodyOf Tryd.f38) (finQ times_Mul.Γ Tryd.f38.results.toList (.agg (.lst (.int .u32)))) [.r, .r, .r, .l, .r, .l, .l, .r, .r, .l, .l, .r, .r, .l, .r, .l]
noncomputable def times_Mul.l1 (x4 : List Int) (x6 : List Int) (x7 : List Int) (x8 : Int) (x9 : Int) (x10 : Int) (x23 : List Int) (x24 : Int) (x25 : Int) (x30 : List Int) (x31 : Int) (x32 : Int) : M (List Int) := loopOf times_Mul.Γ times_Mul.A times_Mul.l1.live times_Mul.l1.c (x4, x6, x7, x8, x9, x10, x23, x24, x25, x30, x31, x32)
theorem times_Mul.l0_eq {x4 : List Int} {x6 : List Int} {x7 : List Int} {x23 : List Int} {x24 : Int} {x25 : Int} :
    roundOf times_Mul.Γ times_Mul.A times_Mul.l0.live times_Mul.l0.c (loopOf times_Mul.Γ times_Mul.A times_Mul.l0.live times_Mul.l0.c) (x4, x6, x7, x23, x24, x25) =
    (if x25 < x24 then (if 0 ≤ x25 then (if x25 < (x23.length : Int) then (times_Mul.l1 x4 x6 x7 x25 (rdI x23 x25) 0 x23 x24 x25 x6 (x6.length : Int) 0) else M.none) else M.none) else (M.bind (nat_Made.f x7) fun t1 => (M.ret t1))) := by kernel_rfl
theorem times_Mul.l1_eq {x4 : List Int} {x6 : List Int} {x7 : List Int} {x8 : Int} {x9 : Int} {x10 : Int} {x23 : List Int} {x24 : Int} {x25 : Int} {x30 : List Int} {x31 : Int} {x32 : Int} :
    roundOf times_Mul.Γ times_Mul.A times_Mul.l1.live times_Mul.l1.c (loopOf times_Mul.Γ times_Mul.A times_Mul.l1.live times_Mul.l1.c) (x4, x6, x7, x8, x9, x10, x23, x24, x25, x30, x31, x32) =
    (if x32 < x31 then (if 0 ≤ x32 then (if x32 < (x30.length : Int) then (if 0 ≤ (IntKind.i64.wrap (x8 + x32)) then (if (IntKind.i64.wrap (x8 + x32)) < (x7.length : Int) then (if 0 ≤ (IntKind.i64.wrap (x8 + x32)) then (if (IntKind.i64.wrap (x8 + x32)) < (x7.length : Int) then (times_Mul.l1 x4 x6 (x7.set ((IntKind.i64.wrap (x8 + x32)).toNat) (IntKind.u32.wrap (IntKind.u64.wrap (x10 + (IntKind.u64.wrap ((IntKind.u64.wrap ((IntKind.u64.wrap (x9)) * (IntKind.u64.wrap (rdI x30 x32)))) + (IntKind.u64.wrap (x7.getD ((IntKind.i64.wrap (x8 + x32)).toNat) 0)))))))) x8 x9 ((IntKind.u64.wrap (x10 + (IntKind.u64.wrap ((IntKind.u64.wrap ((IntKind.u64.wrap (x9)) * (IntKind.u64.wrap (rdI x30 x32)))) + (IntKind.u64.wrap (x7.getD ((IntKind.i64.wrap (x8 + x32)).toNat) 0)))))).fdiv (2 ^ 32)) x23 x24 x25 x30 x31 (IntKind.i64.wrap (x32 + 1))) else M.none) else M.none) else M.none) else M.none) else M.none) else M.none) else (if 0 ≤ (IntKind.i64.wrap (x8 + (x6.length : Int))) then (if (IntKind.i64.wrap (x8 + (x6.length : Int))) < (x7.length : Int) then (times_Mul.l0 x4 x6 (x7.set ((IntKind.i64.wrap (x8 + (x6.length : Int))).toNat) (IntKind.u32.wrap (x10))) x23 x24 (IntKind.i64.wrap (x25 + 1))) else M.none) else M.none)) := by kernel_rfl
theorem times_Mul.f_eq {a0 : List Int} {a1 : List Int} : times_Mul.f a0 a1 =
    (M.bind (nat_Nat_Limbs.f a0) fun t1 => (M.bind (nat_Nat_Limbs.f a1) fun t2 => (if 0 ≤ (IntKind.i64.wrap ((t1.length : Int) + (t2.length : Int))) then (if (IntKind.i64.wrap ((t1.length : Int) + (t2.length : Int))) ≤ 1099511627776 then (times_Mul.l0 ([] : List Int) t2 (List.replicate (IntKind.i64.wrap ((t1.length : Int) + (t2.length : Int))).toNat (0 : Int)) t1 (t1.length : Int) 0) else M.none) else M.none))) := by kernel_rfl
/-! ### times_Pow -/
noncomputable def times_Pow.Γ : Ctx := ⟨tys, fun f => bif Nat.beq f 24 then some nat_Of.ent else (bif Nat.beq f 38 then some times_Mul.ent else (none)), globs, eqs⟩
def times_Pow.l0.live : List (Nat × LK) := [(1, .val (.int .i64)), (2, .box [(.lst (.int .u32))]), (4, .box [(.lst (.int .u32))]), (5, .box [(.lst (.int .u32))])]
def times_Pow.A : Live := fun i => bif Nat.beq i 4 then some times_Pow.l0.live else (none)
noncomputable def times_Pow.f (a0 : List Int) (a1 : Int) : M (List Int) := evFn times_Pow.Γ times_Pow.A Tryd.f26 (.pair (.agg (.lst (.int .u32))) (.int .i64)) (.agg (.lst (.int .u32))) (a0, a1)
noncomputable def times_Pow.ent : FnE := .plain (.pair (.agg (.lst (.int .u32))) (.int .i64)) (.agg (.lst (.int .u32))) false fun x => times_Pow.f x.1 x.2
noncomputable def times_Pow.l0.c : Code × Kont (List Int) := focus times_Pow.Γ times_Pow.A (bodyOf Tryd.f26) (finQ times_Pow.Γ Tryd.f26.results.toList (.agg (.lst (.int .u32)))) [.r, .r, .l, .l]
noncomputable def times_Pow.l0 (x1 : Int) (x2 : List Int) (x4 : List Int) (x5 : List Int) : M (List Int) := loopOf times_Pow.Γ times_Pow.A times_Pow.l0.live times_Pow.l0.c (x1, x2, x4, x5)
theorem times_Pow.l0_eq {x1 : Int} {x2 : List Int} {x4 : List Int} {x5 : List Int} :
    roundOf times_Pow.Γ times_Pow.A times_Pow.l0.live times_Pow.l0.c (loopOf times_Pow.Γ times_Pow.A times_Pow.l0.live times_Pow.l0.c) (x1, x2, x4, x5) =
    (if x1 > 0 then (if (IntKind.i64.wrap ((BitVec.ofInt IntKind.i64.bits x1 &&& BitVec.ofInt IntKind.i64.bits 1).toNat)) = 1 then (M.bind (times_Mul.f x5 x2) fun t1 => (if x1 > 1 then (M.bind (times_Mul.f x2 x2) fun t2 => (times_Pow.l0 (x1.fdiv (2 ^ 1)) t2 x4 t1)) else (times_Pow.l0 (x1.fdiv (2 ^ 1)) x2 x4 t1))) else (if x1 > 1 then (M.bind (times_Mul.f x2 x2) fun t3 => (times_Pow.l0 (x1.fdiv (2 ^ 1)) t3 x4 x5)) else (times_Pow.l0 (x1.fdiv (2 ^ 1)) x2 x4 x5))) else (M.ret x5)) := by kernel_rfl
theorem times_Pow.f_eq {a0 : List Int} {a1 : Int} : times_Pow.f a0 a1 =
    (M.bind (nat_Of.f 1) fun t1 => (times_Pow.l0 a1 a0 ([] : List Int) t1)) := by kernel_rfl
/-! ### tens_Ten -/
noncomputable def tens_Ten.Γ : Ctx := ⟨tys, fun f => bif Nat.beq f 24 then some nat_Of.ent else (bif Nat.beq f 26 then some times_Pow.ent else (none)), globs, eqs⟩
def tens_Ten.A : Live := fun i => none
noncomputable def tens_Ten.f (a0 : Int) : M (List Int) := evFn tens_Ten.Γ tens_Ten.A Tryd.f8 (.int .i64) (.agg (.lst (.int .u32))) a0
noncomputable def tens_Ten.ent : FnE := .plain (.int .i64) (.agg (.lst (.int .u32))) false fun x => tens_Ten.f x
theorem tens_Ten.f_eq {a0 : Int} : tens_Ten.f a0 =
    (M.bind (nat_Of.f 10) fun t1 => (M.bind (times_Pow.f t1 a0) fun t2 => (M.ret t2))) := by kernel_rfl
/-! ### nat_Nat_Small -/
noncomputable def nat_Nat_Small.Γ : Ctx := ⟨tys, fun f => none, globs, eqs⟩
def nat_Nat_Small.l0.live : List (Nat × LK) := [(4, .val (.int .u64)), (12, .val (.lst (.int .u32))), (13, .val (.int .i64)), (14, .val (.int .i64))]
def nat_Nat_Small.A : Live := fun i => bif Nat.beq i 10 then some nat_Nat_Small.l0.live else (none)
noncomputable def nat_Nat_Small.f (a0 : List Int) : M (Int × Bool) := evFn nat_Nat_Small.Γ nat_Nat_Small.A Tryd.f9 (.agg (.lst (.int .u32))) (.pair (.int .u64) .bool) a0
noncomputable def nat_Nat_Small.ent : FnE := .plain (.agg (.lst (.int .u32))) (.pair (.int .u64) .bool) true fun x => nat_Nat_Small.f x
noncomputable def nat_Nat_Small.l0.c : Code × Kont (Int × Bool) := focus nat_Nat_Small.Γ nat_Nat_Small.A (bodyOf Tryd.f9) (finQ nat_Nat_Small.Γ Tryd.f9.results.toList (.pair (.int .u64) .bool)) [.r, .r, .r, .l, .r, .l]
noncomputable def nat_Nat_Small.l0 (x4 : Int) (x12 : List Int) (x13 : Int) (x14 : Int) : M (Int × Bool) := loopOf nat_Nat_Small.Γ nat_Nat_Small.A nat_Nat_Small.l0.live nat_Nat_Small.l0.c (x4, x12, x13, x14)
theorem nat_Nat_Small.l0_eq {x4 : Int} {x12 : List Int} {x13 : Int} {x14 : Int} :
    roundOf nat_Nat_Small.Γ nat_Nat_Small.A nat_Nat_Small.l0.live nat_Nat_Small.l0.c (loopOf nat_Nat_Small.Γ nat_Nat_Small.A nat_Nat_Small.l0.live nat_Nat_Small.l0.c) (x4, x12, x13, x14) =
    (if x14 < x13 then (if 0 ≤ x14 then (if x14 < (x12.length : Int) then (if 0 ≤ IntKind.i64.wrap (32 * x14) then (nat_Nat_Small.l0 (IntKind.u64.wrap ((BitVec.ofInt IntKind.u64.bits x4 ||| BitVec.ofInt IntKind.u64.bits (IntKind.u64.wrap ((IntKind.u64.wrap (rdI x12 x14)) * 2 ^ (min (IntKind.i64.wrap (32 * x14)).toNat 64)))).toNat)) x12 x13 (IntKind.i64.wrap (x14 + 1))) else M.none) else M.none) else M.none) else (M.ret (x4, true))) := by kernel_rfl
theorem nat_Nat_Small.f_eq {a0 : List Int} : nat_Nat_Small.f a0 =
    (if (a0.length : Int) > 2 then (M.ret (0, false)) else (nat_Nat_Small.l0 0 a0 (a0.length : Int) 0)) := by kernel_rfl
/-! ### mbits_TrailingZeros32 -/
noncomputable def mbits_TrailingZeros32.Γ : Ctx := ⟨tys, fun f => none, globs, eqs⟩
def mbits_TrailingZeros32.A : Live := fun i => none
noncomputable def mbits_TrailingZeros32.f (a0 : Int) : M Int := evFn mbits_TrailingZeros32.Γ mbits_TrailingZeros32.A Tryd.f35 (.int .u32) (.int .i64) a0
noncomputable def mbits_TrailingZeros32.ent : FnE := .plain (.int .u32) (.int .i64) false fun x => mbits_TrailingZeros32.f x
theorem mbits_TrailingZeros32.f_eq {a0 : Int} : mbits_TrailingZeros32.f a0 =
    (if a0 = 0 then (M.ret 32) else (if (0 : Int) ≤ 27 then (if 0 ≤ ((IntKind.u32.wrap ((IntKind.u32.wrap ((BitVec.ofInt IntKind.u32.bits a0 &&& BitVec.ofInt IntKind.u32.bits (IntKind.u32.wrap (0 - a0))).toNat)) * 125613361)).fdiv (2 ^ 27)) then (if ((IntKind.u32.wrap ((IntKind.u32.wrap ((BitVec.ofInt IntKind.u32.bits a0 &&& BitVec.ofInt IntKind.u32.bits (IntKind.u32.wrap (0 - a0))).toNat)) * 125613361)).fdiv (2 ^ 27)) < (32 : Int) then (M.ret (IntKind.i64.wrap (rdI tab0 ((IntKind.u32.wrap ((IntKind.u32.wrap ((BitVec.ofInt IntKind.u32.bits a0 &&& BitVec.ofInt IntKind.u32.bits (IntKind.u32.wrap (0 - a0))).toNat)) * 125613361)).fdiv (2 ^ 27))))) else M.none) else M.none) else M.none)) := by kernel_rfl
/-! ### tens_Noughts -/
noncomputable def tens_Noughts.Γ : Ctx := ⟨tys, fun f => bif Nat.beq f 23 then some nat_Nat_Limbs.ent else (bif Nat.beq f 35 then some mbits_TrailingZeros32.ent else (none)), globs, eqs⟩
def tens_Noughts.l0.live : List (Nat × LK) := [(6, .val (.lst (.int .u32))), (7, .val (.int .i64)), (8, .val (.int .i64))]
def tens_Noughts.A : Live := fun i => bif Nat.beq i 4 then some tens_Noughts.l0.live else (none)
noncomputable def tens_Noughts.f (a0 : List Int) : M Int := evFn tens_Noughts.Γ tens_Noughts.A Tryd.f22 (.agg (.lst (.int .u32))) (.int .i64) a0
noncomputable def tens_Noughts.ent : FnE := .plain (.agg (.lst (.int .u32))) (.int .i64) false fun x => tens_Noughts.f x
noncomputable def tens_Noughts.l0.c : Code × Kont Int := focus tens_Noughts.Γ tens_Noughts.A (bodyOf Tryd.f22) (finQ tens_Noughts.Γ Tryd.f22.results.toList (.int .i64)) [.r, .l, .r, .l]
noncomputable def tens_Noughts.l0 (x6 : List Int) (x7 : Int) (x8 : Int) : M Int := loopOf tens_Noughts.Γ tens_Noughts.A tens_Noughts.l0.live tens_Noughts.l0.c (x6, x7, x8)
theorem tens_Noughts.l0_eq {x6 : List Int} {x7 : Int} {x8 : Int} :
    roundOf tens_Noughts.Γ tens_Noughts.A tens_Noughts.l0.live tens_Noughts.l0.c (loopOf tens_Noughts.Γ tens_Noughts.A tens_Noughts.l0.live tens_Noughts.l0.c) (x6, x7, x8) =
    (if x8 < x7 then (if 0 ≤ x8 then (if x8 < (x6.length : Int) then (if (rdI x6 x8) ≠ 0 then (M.bind (mbits_TrailingZeros32.f (rdI x6 x8)) fun t1 => (M.ret (IntKind.i64.wrap ((IntKind.i64.wrap (32 * x8)) + t1)))) else (tens_Noughts.l0 x6 x7 (IntKind.i64.wrap (x8 + 1)))) else M.none) else M.none) else (M.ret 0)) := by kernel_rfl
theorem tens_Noughts.f_eq {a0 : List Int} : tens_Noughts.f a0 =
    (M.bind (nat_Nat_Limbs.f a0) fun t1 => (tens_Noughts.l0 t1 (t1.length : Int) 0)) := by kernel_rfl
/-! ### tens_Down -/
noncomputable def tens_Down.Γ : Ctx := ⟨tys, fun f => bif Nat.beq f 11 then some nat_Made.ent else (bif Nat.beq f 22 then some tens_Noughts.ent else (bif Nat.beq f 23 then some nat_Nat_Limbs.ent else (none))), globs, eqs⟩
def tens_Down.l0.live : List (Nat × LK) := [(4, .box [(.lst (.int .u32))]), (6, .val (.lst (.int .u32))), (7, .val .bool), (8, .val (.int .i64)), (9, .val (.int .i64)), (10, .own true (.int .u32)), (43, .val (.int .i64)), (44, .val (.int .i64))]
def tens_Down.A : Live := fun i => bif Nat.beq i 20 then some tens_Down.l0.live else (none)
noncomputable def tens_Down.f (a0 : List Int) (a1 : Int) : M ((List Int) × Bool) := evFn tens_Down.Γ tens_Down.A Tryd.f17 (.pair (.agg (.lst (.int .u32))) (.int .i64)) (.pair (.agg (.lst (.int .u32))) .bool) (a0, a1)
noncomputable def tens_Down.ent : FnE := .plain (.pair (.agg (.lst (.int .u32))) (.int .i64)) (.pair (.agg (.lst (.int .u32))) .bool) true fun x => tens_Down.f x.1 x.2
noncomputable def tens_Down.l0.c : Code × Kont ((List Int) × Bool) := focus tens_Down.Γ tens_Down.A (bodyOf Tryd.f17) (finQ tens_Down.Γ Tryd.f17.results.toList (.pair (.agg (.lst (.int .u32))) .bool)) [.r, .r, .r, .r, .r, .r, .r, .l, .r, .l]
noncomputable def tens_Down.l0 (x4 : List Int) (x6 : List Int) (x7 : Bool) (x8 : Int) (x9 : Int) (x10 : List Int) (x43 : Int) (x44 : Int) : M ((List Int) × Bool) := loopOf tens_Down.Γ tens_Down.A tens_Down.l0.live tens_Down.l0.c (x4, x6, x7, x8, x9, x10, x43, x44)
theorem tens_Down.l0_eq {x4 : List Int} {x6 : List Int} {x7 : Bool} {x8 : Int} {x9 : Int} {x10 : List Int} {x43 : Int} {x44 : Int} :
    roundOf tens_Down.Γ tens_Down.A tens_Down.l0.live tens_Down.l0.c (loopOf tens_Down.Γ tens_Down.A tens_Down.l0.live tens_Down.l0.c) (x4, x6, x7, x8, x9, x10, x43, x44) =
    (if x44 < x43 then (if 0 ≤ (IntKind.i64.wrap (x8 + x44)) then (if (IntKind.i64.wrap (x8 + x44)) < (x6.length : Int) then (if (IntKind.i64.wrap ((IntKind.i64.wrap (x8 + x44)) + 1)) < (x6.length : Int) then (if 0 ≤ (IntKind.i64.wrap ((IntKind.i64.wrap (x8 + x44)) + 1)) then (if (IntKind.i64.wrap ((IntKind.i64.wrap (x8 + x44)) + 1)) < (x6.length : Int) then (if 0 ≤ x9 then (if 0 ≤ x44 then (if x44 < (x10.length : Int) then (tens_Down.l0 x4 x6 x7 x8 x9 (x10.set x44.toNat (IntKind.u32.wrap ((IntKind.u64.wrap ((BitVec.ofInt IntKind.u64.bits (IntKind.u64.wrap (rdI x6 (IntKind.i64.wrap (x8 + x44)))) ||| BitVec.ofInt IntKind.u64.bits (IntKind.u64.wrap ((IntKind.u64.wrap (rdI x6 (IntKind.i64.wrap ((IntKind.i64.wrap (x8 + x44)) + 1)))) * 2 ^ 32))).toNat)).fdiv (2 ^ (min x9.toNat 64))))) x43 (IntKind.i64.wrap (x44 + 1))) else M.none) else M.none) else M.none) else M.none) else M.none) else (if 0 ≤ x9 then (if 0 ≤ x44 then (if x44 < (x10.length : Int) then (tens_Down.l0 x4 x6 x7 x8 x9 (x10.set x44.toNat (IntKind.u32.wrap ((IntKind.u64.wrap (rdI x6 (IntKind.i64.wrap (x8 + x44)))).fdiv (2 ^ (min x9.toNat 64))))) x43 (IntKind.i64.wrap (x44 + 1))) else M.none) else M.none) else M.none)) else M.none) else M.none) else (M.bind (nat_Made.f x10) fun t1 => (M.ret (t1, x7)))) := by kernel_rfl
theorem tens_Down.f_eq {a0 : List Int} {a1 : Int} : tens_Down.f a0 a1 =
    (if a1 < 1 then (M.ret (a0, false)) else (M.bind (nat_Nat_Limbs.f a0) fun t1 => (if (t1.length : Int) > 0 then (M.bind (tens_Noughts.f a0) fun t2 => (if (IntKind.i64.wrap (a1.tdiv 32)) ≥ (t1.length : Int) then (M.ret (([] : List Int), decide (t2 < a1))) else (if 0 ≤ (IntKind.i64.wrap ((t1.length : Int) - (IntKind.i64.wrap (a1.tdiv 32)))) then (if (IntKind.i64.wrap ((t1.length : Int) - (IntKind.i64.wrap (a1.tdiv 32)))) ≤ 1099511627776 then (tens_Down.l0 ([] : List Int) t1 (decide (t2 < a1)) (IntKind.i64.wrap (a1.tdiv 32)) (a1.tmod 32) (List.replicate (IntKind.i64.wrap ((t1.length : Int) - (IntKind.i64.wrap (a1.tdiv 32)))).toNat (0 : Int)) ((List.replicate (IntKind.i64.wrap ((t1.length : Int) - (IntKind.i64.wrap (a1.tdiv 32)))).toNat (0 : Int)).length : Int) 0) else M.none) else M.none))) else (if (IntKind.i64.wrap (a1.tdiv 32)) ≥ (t1.length : Int) then (M.ret (([] : List Int), false)) else (if 0 ≤ (IntKind.i64.wrap ((t1.length : Int) - (IntKind.i64.wrap (a1.tdiv 32)))) then (if (IntKind.i64.wrap ((t1.length : Int) - (IntKind.i64.wrap (a1.tdiv 32)))) ≤ 1099511627776 then (tens_Down.l0 ([] : List Int) t1 false (IntKind.i64.wrap (a1.tdiv 32)) (a1.tmod 32) (List.replicate (IntKind.i64.wrap ((t1.length : Int) - (IntKind.i64.wrap (a1.tdiv 32)))).toNat (0 : Int)) ((List.replicate (IntKind.i64.wrap ((t1.length : Int) - (IntKind.i64.wrap (a1.tdiv 32)))).toNat (0 : Int)).length : Int) 0) else M.none) else M.none))))) := by kernel_rfl
/-! ### tens_Up -/
noncomputable def tens_Up.Γ : Ctx := ⟨tys, fun f => bif Nat.beq f 11 then some nat_Made.ent else (bif Nat.beq f 23 then some nat_Nat_Limbs.ent else (none)), globs, eqs⟩
def tens_Up.l0.live : List (Nat × LK) := [(4, .box [(.lst (.int .u32))]), (6, .val (.int .i64)), (7, .val (.int .i64)), (8, .own true (.int .u32)), (32, .val (.lst (.int .u32))), (33, .val (.int .i64)), (34, .val (.int .i64))]
def tens_Up.A : Live := fun i => bif Nat.beq i 14 then some tens_Up.l0.live else (none)
noncomputable def tens_Up.f (a0 : List Int) (a1 : Int) : M (List Int) := evFn tens_Up.Γ tens_Up.A Tryd.f19 (.pair (.agg (.lst (.int .u32))) (.int .i64)) (.agg (.lst (.int .u32))) (a0, a1)
noncomputable def tens_Up.ent : FnE := .plain (.pair (.agg (.lst (.int .u32))) (.int .i64)) (.agg (.lst (.int .u32))) false fun x => tens_Up.f x.1 x.2
noncomputable def tens_Up.l0.c : Code × Kont (List Int) := focus tens_Up.Γ tens_Up.A (bodyOf Tryd.f19) (finQ tens_Up.Γ Tryd.f19.results.toList (.agg (.lst (.int .u32)))) [.r, .r, .r, .r, .r, .l, .r, .l]
noncomputable def tens_Up.l0 (x4 : List Int) (x6 : Int) (x7 : Int) (x8 : List Int) (x32 : List Int) (x33 : Int) (x34 : Int) : M (List Int) := loopOf tens_Up.Γ tens_Up.A tens_Up.l0.live tens_Up.l0.c (x4, x6, x7, x8, x32, x33, x34)
theorem tens_Up.l0_eq {x4 : List Int} {x6 : Int} {x7 : Int} {x8 : List Int} {x32 : List Int} {x33 : Int} {x34 : Int} :
    roundOf tens_Up.Γ tens_Up.A tens_Up.l0.live tens_Up.l0.c (loopOf tens_Up.Γ tens_Up.A tens_Up.l0.live tens_Up.l0.c) (x4, x6, x7, x8, x32, x33, x34) =
    (if x34 < x33 then (if 0 ≤ x34 then (if x34 < (x32.length : Int) then (if 0 ≤ x7 then (if 0 ≤ (IntKind.i64.wrap (x6 + x34)) then (if (IntKind.i64.wrap (x6 + x34)) < (x8.length : Int) then (if 0 ≤ (IntKind.i64.wrap (x6 + x34)) then (if (IntKind.i64.wrap (x6 + x34)) < (x8.length : Int) then (if 0 ≤ (IntKind.i64.wrap ((IntKind.i64.wrap (x6 + x34)) + 1)) then (if (IntKind.i64.wrap ((IntKind.i64.wrap (x6 + x34)) + 1)) < ((x8.set ((IntKind.i64.wrap (x6 + x34)).toNat) (IntKind.u32.wrap ((BitVec.ofInt IntKind.u32.bits (x8.getD ((IntKind.i64.wrap (x6 + x34)).toNat) 0) ||| BitVec.ofInt IntKind.u32.bits (IntKind.u32.wrap (IntKind.u64.wrap ((IntKind.u64.wrap (rdI x32 x34)) * 2 ^ (min x7.toNat 64))))).toNat))).length : Int) then (tens_Up.l0 x4 x6 x7 ((x8.set ((IntKind.i64.wrap (x6 + x34)).toNat) (IntKind.u32.wrap ((BitVec.ofInt IntKind.u32.bits (x8.getD ((IntKind.i64.wrap (x6 + x34)).toNat) 0) ||| BitVec.ofInt IntKind.u32.bits (IntKind.u32.wrap (IntKind.u64.wrap ((IntKind.u64.wrap (rdI x32 x34)) * 2 ^ (min x7.toNat 64))))).toNat))).set ((IntKind.i64.wrap ((IntKind.i64.wrap (x6 + x34)) + 1)).toNat) (IntKind.u32.wrap ((IntKind.u64.wrap ((IntKind.u64.wrap (rdI x32 x34)) * 2 ^ (min x7.toNat 64))).fdiv (2 ^ 32)))) x32 x33 (IntKind.i64.wrap (x34 + 1))) else M.none) else M.none) else M.none) else M.none) else M.none) else M.none) else M.none) else M.none) else M.none) else (M.bind (nat_Made.f x8) fun t1 => (M.ret t1))) := by kernel_rfl
theorem tens_Up.f_eq {a0 : List Int} {a1 : Int} : tens_Up.f a0 a1 =
    (M.bind (nat_Nat_Limbs.f a0) fun t1 => (if a1 < 1 then (M.ret a0) else (if (t1.length : Int) = 0 then (M.ret a0) else (if 0 ≤ (IntKind.i64.wrap ((IntKind.i64.wrap ((IntKind.i64.wrap (a1.tdiv 32)) + (t1.length : Int))) + 1)) then (if (IntKind.i64.wrap ((IntKind.i64.wrap ((IntKind.i64.wrap (a1.tdiv 32)) + (t1.length : Int))) + 1)) ≤ 1099511627776 then (tens_Up.l0 ([] : List Int) (IntKind.i64.wrap (a1.tdiv 32)) (a1.tmod 32) (List.replicate (IntKind.i64.wrap ((IntKind.i64.wrap ((IntKind.i64.wrap (a1.tdiv 32)) + (t1.length : Int))) + 1)).toNat (0 : Int)) t1 (t1.length : Int) 0) else M.none) else M.none)))) := by kernel_rfl
/-! ### numerarylaw05_wakes -/
noncomputable def numerarylaw05_wakes.Γ : Ctx := ⟨tys, fun f => bif Nat.beq f 8 then some tens_Ten.ent else (bif Nat.beq f 9 then some nat_Nat_Small.ent else (bif Nat.beq f 17 then some tens_Down.ent else (bif Nat.beq f 19 then some tens_Up.ent else (bif Nat.beq f 22 then some tens_Noughts.ent else (bif Nat.beq f 24 then some nat_Of.ent else (none)))))), globs, eqs⟩
def numerarylaw05_wakes.A : Live := fun i => none
noncomputable def numerarylaw05_wakes.f (_ : Unit) : M Bool := evFn numerarylaw05_wakes.Γ numerarylaw05_wakes.A Tryd.f10 .nil .bool ()
noncomputable def numerarylaw05_wakes.ent : FnE := .plain .nil .bool false fun x => numerarylaw05_wakes.f ()
theorem numerarylaw05_wakes.f_eq : numerarylaw05_wakes.f () =
    (M.bind (tens_Ten.f 19) fun t1 => (M.bind (nat_Nat_Small.f t1) fun t2 => (M.bind (nat_Of.f 5) fun t3 => (M.bind (tens_Down.f t3 1) fun t4 => (M.bind (nat_Nat_Small.f t4.1) fun t5 => (M.bind (nat_Of.f 3) fun t6 => (M.bind (tens_Up.f t6 40) fun t7 => (M.bind (nat_Nat_Small.f t7) fun t8 => (if t2.2 = true then (if t2.1 = 10000000000000000000 then (if t4.2 = true then (if t5.2 = true then (if t5.1 = 2 then (if t8.2 = true then (if t8.1 = 3298534883328 then (M.bind (nat_Of.f 24) fun t9 => (M.bind (tens_Noughts.f t9) fun t10 => (M.ret (decide (t10 = 3))))) else (M.ret false)) else (M.ret false)) else (M.ret false)) else (M.ret false)) else (M.ret false)) else (M.ret false)) else (M.ret false)))))))))) := by kernel_rfl
/-! ### numerarylaw05_few -/
noncomputable def numerarylaw05_few.Γ : Ctx := ⟨tys, fun f => none, globs, eqs⟩
def numerarylaw05_few.A : Live := fun i => none
noncomputable def numerarylaw05_few.f (a0 : List Int) : M (List Int) := evFn numerarylaw05_few.Γ numerarylaw05_few.A Tryd.f12 (.lst (.int .u32)) (.lst (.int .u32)) a0
noncomputable def numerarylaw05_few.ent : FnE := .plain (.lst (.int .u32)) (.lst (.int .u32)) false fun x => numerarylaw05_few.f x
theorem numerarylaw05_few.f_eq {a0 : List Int} : numerarylaw05_few.f a0 =
    (if 0 ≤ (mnI (a0.length : Int) 15) then (if (mnI (a0.length : Int) 15) ≤ (a0.length : Int) then (M.ret (a0.take (mnI (a0.length : Int) 15).toNat)) else M.none) else M.none) := by kernel_rfl
/-! ### numeraryref02_Cmp -/
noncomputable def numeraryref02_Cmp.Γ : Ctx := ⟨tys, fun f => none, globs, eqs⟩
def numeraryref02_Cmp.l0.live : List (Nat × LK) := [(0, .val (.lst (.int .i64))), (1, .val (.lst (.int .i64))), (5, .val (.int .i64))]
def numeraryref02_Cmp.A : Live := fun i => bif Nat.beq i 12 then some numeraryref02_Cmp.l0.live else (none)
noncomputable def numeraryref02_Cmp.f (a0 : List Int) (a1 : List Int) : M Int := evFn numeraryref02_Cmp.Γ numeraryref02_Cmp.A Tryd.f18 (.pair (.lst (.int .i64)) (.lst (.int .i64))) (.int .i64) (a0, a1)
noncomputable def numeraryref02_Cmp.ent : FnE := .plain (.pair (.lst (.int .i64)) (.lst (.int .i64))) (.int .i64) false fun x => numeraryref02_Cmp.f x.1 x.2
noncomputable def numeraryref02_Cmp.l0.c : Code × Kont Int := focus numeraryref02_Cmp.Γ numeraryref02_Cmp.A (bodyOf Tryd.f18) (finQ numeraryref02_Cmp.Γ Tryd.f18.results.toList (.int .i64)) [.r, .r, .l, .r, .l]
noncomputable def numeraryref02_Cmp.l0 (x0 : List Int) (x1 : List Int) (x5 : Int) : M Int := loopOf numeraryref02_Cmp.Γ numeraryref02_Cmp.A numeraryref02_Cmp.l0.live numeraryref02_Cmp.l0.c (x0, x1, x5)
theorem numeraryref02_Cmp.l0_eq {x0 : List Int} {x1 : List Int} {x5 : Int} :
    roundOf numeraryref02_Cmp.Γ numeraryref02_Cmp.A numeraryref02_Cmp.l0.live numeraryref02_Cmp.l0.c (loopOf numeraryref02_Cmp.Γ numeraryref02_Cmp.A numeraryref02_Cmp.l0.live numeraryref02_Cmp.l0.c) (x0, x1, x5) =
    (if x5 ≥ 0 then (if 0 ≤ x5 then (if x5 < (x0.length : Int) then (if 0 ≤ x5 then (if x5 < (x1.length : Int) then (if (rdI x0 x5) < (rdI x1 x5) then (M.ret (-1)) else (if 0 ≤ x5 then (if x5 < (x0.length : Int) then (if 0 ≤ x5 then (if x5 < (x1.length : Int) then (if (rdI x0 x5) > (rdI x1 x5) then (M.ret 1) else (numeraryref02_Cmp.l0 x0 x1 (IntKind.i64.wrap (x5 - 1)))) else M.none) else M.none) else M.none) else M.none)) else M.none) else M.none) else M.none) else M.none) else (M.ret 0)) := by kernel_rfl
theorem numeraryref02_Cmp.f_eq {a0 : List Int} {a1 : List Int} : numeraryref02_Cmp.f a0 a1 =
    (if (a0.length : Int) ≠ (a1.length : Int) then (if (a0.length : Int) < (a1.length : Int) then (M.ret (-1)) else (M.ret 1)) else (numeraryref02_Cmp.l0 a0 a1 (IntKind.i64.wrap ((a0.length : Int) - 1)))) := by kernel_rfl
/-! ### numeraryref02_Sub -/
noncomputable def numeraryref02_Sub.Γ : Ctx := ⟨tys, fun f => bif Nat.beq f 29 then some numeraryref02_at.ent else (bif Nat.beq f 30 then some numeraryref02_trim.ent else (none)), globs, eqs⟩
def numeraryref02_Sub.l0.live : List (Nat × LK) := [(0, .val (.lst (.int .i64))), (1, .val (.lst (.int .i64))), (5, .own true (.int .i64)), (6, .val (.int .i64)), (7, .val (.int .i64))]
def numeraryref02_Sub.A : Live := fun i => bif Nat.beq i 8 then some numeraryref02_Sub.l0.live else (none)
noncomputable def numeraryref02_Sub.f (a0 : List Int) (a1 : List Int) : M (List Int) := evFn numeraryref02_Sub.Γ numeraryref02_Sub.A Tryd.f31 (.pair (.lst (.int .i64)) (.lst (.int .i64))) (.lst (.int .i64)) (a0, a1)
noncomputable def numeraryref02_Sub.ent : FnE := .plain (.pair (.lst (.int .i64)) (.lst (.int .i64))) (.lst (.int .i64)) false fun x => numeraryref02_Sub.f x.1 x.2
noncomputable def numeraryref02_Sub.l0.c : Code × Kont (List Int) := focus numeraryref02_Sub.Γ numeraryref02_Sub.A (bodyOf Tryd.f31) (finQ numeraryref02_Sub.Γ Tryd.f31.results.toList (.lst (.int .i64))) [.r, .r, .r, .l, .r, .l]
noncomputable def numeraryref02_Sub.l0 (x0 : List Int) (x1 : List Int) (x5 : List Int) (x6 : Int) (x7 : Int) : M (List Int) := loopOf numeraryref02_Sub.Γ numeraryref02_Sub.A numeraryref02_Sub.l0.live numeraryref02_Sub.l0.c (x0, x1, x5, x6, x7)
theorem numeraryref02_Sub.l0_eq {x0 : List Int} {x1 : List Int} {x5 : List Int} {x6 : Int} {x7 : Int} :
    roundOf numeraryref02_Sub.Γ numeraryref02_Sub.A numeraryref02_Sub.l0.live numeraryref02_Sub.l0.c (loopOf numeraryref02_Sub.Γ numeraryref02_Sub.A numeraryref02_Sub.l0.live numeraryref02_Sub.l0.c) (x0, x1, x5, x6, x7) =
    (if x7 < (x0.length : Int) then (M.bind (numeraryref02_at.f x1 x7) fun t1 => (if 0 ≤ x7 then (if x7 < (x0.length : Int) then (if (IntKind.i64.wrap ((IntKind.i64.wrap ((rdI x0 x7) - t1)) - x6)) < 0 then (if x5.length + ([IntKind.i64.wrap ((IntKind.i64.wrap ((IntKind.i64.wrap ((rdI x0 x7) - t1)) - x6)) + 10)] : List Int).length ≤ 1099511627776 then (numeraryref02_Sub.l0 x0 x1 (x5 ++ ([IntKind.i64.wrap ((IntKind.i64.wrap ((IntKind.i64.wrap ((rdI x0 x7) - t1)) - x6)) + 10)] : List Int)) 1 (IntKind.i64.wrap (x7 + 1))) else M.none) else (if x5.length + ([IntKind.i64.wrap ((IntKind.i64.wrap ((rdI x0 x7) - t1)) - x6)] : List Int).length ≤ 1099511627776 then (numeraryref02_Sub.l0 x0 x1 (x5 ++ ([IntKind.i64.wrap ((IntKind.i64.wrap ((rdI x0 x7) - t1)) - x6)] : List Int)) 0 (IntKind.i64.wrap (x7 + 1))) else M.none)) else M.none) else M.none)) else (M.bind (numeraryref02_trim.f x5) fun t2 => (M.ret t2))) := by kernel_rfl
theorem numeraryref02_Sub.f_eq {a0 : List Int} {a1 : List Int} : numeraryref02_Sub.f a0 a1 =
    (numeraryref02_Sub.l0 a0 a1 ([] : List Int) 0 0) := by kernel_rfl
/-! ### cmp_isNaN_int -/
noncomputable def cmp_isNaN_int.Γ : Ctx := ⟨tys, fun f => none, globs, eqs⟩
def cmp_isNaN_int.A : Live := fun i => none
noncomputable def cmp_isNaN_int.f (a0 : Int) : M Bool := evFn cmp_isNaN_int.Γ cmp_isNaN_int.A Tryd.f39 (.int .i64) .bool a0
noncomputable def cmp_isNaN_int.ent : FnE := .plain (.int .i64) .bool false fun x => cmp_isNaN_int.f x
theorem cmp_isNaN_int.f_eq {a0 : Int} : cmp_isNaN_int.f a0 =
    (M.ret (decide (a0 ≠ a0))) := by kernel_rfl
/-! ### cmp_Compare_int -/
noncomputable def cmp_Compare_int.Γ : Ctx := ⟨tys, fun f => bif Nat.beq f 39 then some cmp_isNaN_int.ent else (none), globs, eqs⟩
def cmp_Compare_int.A : Live := fun i => none
noncomputable def cmp_Compare_int.f (a0 : Int) (a1 : Int) : M Int := evFn cmp_Compare_int.Γ cmp_Compare_int.A Tryd.f32 (.pair (.int .i64) (.int .i64)) (.int .i64) (a0, a1)
noncomputable def cmp_Compare_int.ent : FnE := .plain (.pair (.int .i64) (.int .i64)) (.int .i64) false fun x => cmp_Compare_int.f x.1 x.2
theorem cmp_Compare_int.f_eq {a0 : Int} {a1 : Int} : cmp_Compare_int.f a0 a1 =
    (M.bind (cmp_isNaN_int.f a0) fun t1 => (M.bind (cmp_isNaN_int.f a1) fun t2 => (if t1 = true then (if t2 = true then (M.ret 0) else (M.ret (-1))) else (if t2 = true then (M.ret 1) else (if a0 < a1 then (M.ret (-1)) else (if a0 > a1 then (M.ret 1) else (M.ret 0))))))) := by kernel_rfl
/-! ### cmp_isNaN_uint32 -/
noncomputable def cmp_isNaN_uint32.Γ : Ctx := ⟨tys, fun f => none, globs, eqs⟩
def cmp_isNaN_uint32.A : Live := fun i => none
noncomputable def cmp_isNaN_uint32.f (a0 : Int) : M Bool := evFn cmp_isNaN_uint32.Γ cmp_isNaN_uint32.A Tryd.f40 (.int .u32) .bool a0
noncomputable def cmp_isNaN_uint32.ent : FnE := .plain (.int .u32) .bool false fun x => cmp_isNaN_uint32.f x
theorem cmp_isNaN_uint32.f_eq {a0 : Int} : cmp_isNaN_uint32.f a0 =
    (M.ret (decide (a0 ≠ a0))) := by kernel_rfl
/-! ### cmp_Compare_uint32 -/
noncomputable def cmp_Compare_uint32.Γ : Ctx := ⟨tys, fun f => bif Nat.beq f 40 then some cmp_isNaN_uint32.ent else (none), globs, eqs⟩
def cmp_Compare_uint32.A : Live := fun i => none
noncomputable def cmp_Compare_uint32.f (a0 : Int) (a1 : Int) : M Int := evFn cmp_Compare_uint32.Γ cmp_Compare_uint32.A Tryd.f33 (.pair (.int .u32) (.int .u32)) (.int .i64) (a0, a1)
noncomputable def cmp_Compare_uint32.ent : FnE := .plain (.pair (.int .u32) (.int .u32)) (.int .i64) false fun x => cmp_Compare_uint32.f x.1 x.2
theorem cmp_Compare_uint32.f_eq {a0 : Int} {a1 : Int} : cmp_Compare_uint32.f a0 a1 =
    (M.bind (cmp_isNaN_uint32.f a0) fun t1 => (M.bind (cmp_isNaN_uint32.f a1) fun t2 => (if t1 = true then (if t2 = true then (M.ret 0) else (M.ret (-1))) else (if t2 = true then (M.ret 1) else (if a0 < a1 then (M.ret (-1)) else (if a0 > a1 then (M.ret 1) else (M.ret 0))))))) := by kernel_rfl
/-! ### nat_Cmp -/
noncomputable def nat_Cmp.Γ : Ctx := ⟨tys, fun f => bif Nat.beq f 32 then some cmp_Compare_int.ent else (bif Nat.beq f 33 then some cmp_Compare_uint32.ent else (none)), globs, eqs⟩
def nat_Cmp.l0.live : List (Nat × LK) := [(2, .box [(.lst (.int .u32))]), (3, .box [(.lst (.int .u32))]), (6, .val (.int .i64))]
def nat_Cmp.A : Live := fun i => bif Nat.beq i 10 then some nat_Cmp.l0.live else (none)
noncomputable def nat_Cmp.f (a0 : List Int) (a1 : List Int) : M Int := evFn nat_Cmp.Γ nat_Cmp.A Tryd.f20 (.pair (.agg (.lst (.int .u32))) (.agg (.lst (.int .u32)))) (.int .i64) (a0, a1)
noncomputable def nat_Cmp.ent : FnE := .plain (.pair (.agg (.lst (.int .u32))) (.agg (.lst (.int .u32)))) (.int .i64) false fun x => nat_Cmp.f x.1 x.2
noncomputable def nat_Cmp.l0.c : Code × Kont Int := focus nat_Cmp.Γ nat_Cmp.A (bodyOf Tryd.f20) (finQ nat_Cmp.Γ Tryd.f20.results.toList (.int .i64)) [.r, .r, .l, .r, .l]
noncomputable def nat_Cmp.l0 (x2 : List Int) (x3 : List Int) (x6 : Int) : M Int := loopOf nat_Cmp.Γ nat_Cmp.A nat_Cmp.l0.live nat_Cmp.l0.c (x2, x3, x6)
theorem nat_Cmp.l0_eq {x2 : List Int} {x3 : List Int} {x6 : Int} :
    roundOf nat_Cmp.Γ nat_Cmp.A nat_Cmp.l0.live nat_Cmp.l0.c (loopOf nat_Cmp.Γ nat_Cmp.A nat_Cmp.l0.live nat_Cmp.l0.c) (x2, x3, x6) =
    (if x6 ≥ 0 then (if 0 ≤ x6 then (if x6 < (x2.length : Int) then (if 0 ≤ x6 then (if x6 < (x3.length : Int) then (M.bind (cmp_Compare_uint32.f (rdI x2 x6) (rdI x3 x6)) fun t1 => (if t1 ≠ 0 then (M.ret t1) else (nat_Cmp.l0 x2 x3 (IntKind.i64.wrap (x6 - 1))))) else M.none) else M.none) else M.none) else M.none) else (M.ret 0)) := by kernel_rfl
theorem nat_Cmp.f_eq {a0 : List Int} {a1 : List Int} : nat_Cmp.f a0 a1 =
    (M.bind (cmp_Compare_int.f (a0.length : Int) (a1.length : Int)) fun t1 => (if t1 ≠ 0 then (M.ret t1) else (nat_Cmp.l0 a0 a1 (IntKind.i64.wrap ((a0.length : Int) - 1))))) := by kernel_rfl
/-! ### mbits_Len32 -/
noncomputable def mbits_Len32.Γ : Ctx := ⟨tys, fun f => none, globs, eqs⟩
def mbits_Len32.A : Live := fun i => none
noncomputable def mbits_Len32.f (a0 : Int) : M Int := evFn mbits_Len32.Γ mbits_Len32.A Tryd.f34 (.int .u32) (.int .i64) a0
noncomputable def mbits_Len32.ent : FnE := .plain (.int .u32) (.int .i64) false fun x => mbits_Len32.f x
theorem mbits_Len32.f_eq {a0 : Int} : mbits_Len32.f a0 =
    (if a0 ≥ 65536 then (if (a0.fdiv (2 ^ 16)) ≥ 256 then (if 0 ≤ (IntKind.u8.wrap ((a0.fdiv (2 ^ 16)).fdiv (2 ^ 8))) then (if (IntKind.u8.wrap ((a0.fdiv (2 ^ 16)).fdiv (2 ^ 8))) < ((⟨#[0, 1, 2, 2, 3, 3, 3, 3, 4, 4, 4, 4, 4, 4, 4, 4, 5, 5, 5, 5, 5, 5, 5, 5, 5, 5, 5, 5, 5, 5, 5, 5, 6, 6, 6, 6, 6, 6, 6, 6, 6, 6, 6, 6, 6, 6, 6, 6, 6, 6, 6, 6, 6, 6, 6, 6, 6, 6, 6, 6, 6, 6, 6, 6, 7, 7, 7, 7, 7, 7, 7, 7, 7, 7, 7, 7, 7, 7, 7, 7, 7, 7, 7, 7, 7, 7, 7, 7, 7, 7, 7, 7, 7, 7, 7, 7, 7, 7, 7, 7, 7, 7, 7, 7, 7, 7, 7, 7, 7, 7, 7, 7, 7, 7, 7, 7, 7, 7, 7, 7, 7, 7, 7, 7, 7, 7, 7, 7, 8, 8, 8, 8, 8, 8, 8, 8, 8, 8, 8, 8, 8, 8, 8, 8, 8, 8, 8, 8, 8, 8, 8, 8, 8, 8, 8, 8, 8, 8, 8, 8, 8, 8, 8, 8, 8, 8, 8, 8, 8, 8, 8, 8, 8, 8, 8, 8, 8, 8, 8, 8, 8, 8, 8, 8, 8, 8, 8, 8, 8, 8, 8, 8, 8, 8, 8, 8, 8, 8, 8, 8, 8, 8, 8, 8, 8, 8, 8, 8, 8, 8, 8, 8, 8, 8, 8, 8, 8, 8, 8, 8, 8, 8, 8, 8, 8, 8, 8, 8, 8, 8, 8, 8, 8, 8, 8, 8, 8, 8, 8, 8, 8, 8, 8, 8, 8, 8, 8, 8, 8, 8, 8, 8, 8, 8, 8, 8]⟩ : ByteArray).size : Int) then (M.ret (IntKind.i64.wrap ((IntKind.i64.wrap (16 + 8)) + (IntKind.i64.wrap (byteAt (⟨#[0, 1, 2, 2, 3, 3, 3, 3, 4, 4, 4, 4, 4, 4, 4, 4, 5, 5, 5, 5, 5, 5, 5, 5, 5, 5, 5, 5, 5, 5, 5, 5, 6, 6, 6, 6, 6, 6, 6, 6, 6, 6, 6, 6, 6, 6, 6, 6, 6, 6, 6, 6, 6, 6, 6, 6, 6, 6, 6, 6, 6, 6, 6, 6, 7, 7, 7, 7, 7, 7, 7, 7, 7, 7, 7, 7, 7, 7, 7, 7, 7, 7, 7, 7, 7, 7, 7, 7, 7, 7, 7, 7, 7, 7, 7, 7, 7, 7, 7, 7, 7, 7, 7, 7, 7, 7, 7, 7, 7, 7, 7, 7, 7, 7, 7, 7, 7, 7, 7, 7, 7, 7, 7, 7, 7, 7, 7, 7, 8, 8, 8, 8, 8, 8, 8, 8, 8, 8, 8, 8, 8, 8, 8, 8, 8, 8, 8, 8, 8, 8, 8, 8, 8, 8, 8, 8, 8, 8, 8, 8, 8, 8, 8, 8, 8, 8, 8, 8, 8, 8, 8, 8, 8, 8, 8, 8, 8, 8, 8, 8, 8, 8, 8, 8, 8, 8, 8, 8, 8, 8, 8, 8, 8, 8, 8, 8, 8, 8, 8, 8, 8, 8, 8, 8, 8, 8, 8, 8, 8, 8, 8, 8, 8, 8, 8, 8, 8, 8, 8, 8, 8, 8, 8, 8, 8, 8, 8, 8, 8, 8, 8, 8, 8, 8, 8, 8, 8, 8, 8, 8, 8, 8, 8, 8, 8, 8, 8, 8, 8, 8, 8, 8, 8, 8, 8, 8]⟩ : ByteArray) (IntKind.u8.wrap ((a0.fdiv (2 ^ 16)).fdiv (2 ^ 8)))))))) else M.none) else M.none) else (if 0 ≤ (IntKind.u8.wrap (a0.fdiv (2 ^ 16))) then (if (IntKind.u8.wrap (a0.fdiv (2 ^ 16))) < ((⟨#[0, 1, 2, 2, 3, 3, 3, 3, 4, 4, 4, 4, 4, 4, 4, 4, 5, 5, 5, 5, 5, 5, 5, 5, 5, 5, 5, 5, 5, 5, 5, 5, 6, 6, 6, 6, 6, 6, 6, 6, 6, 6, 6, 6, 6, 6, 6, 6, 6, 6, 6, 6, 6, 6, 6, 6, 6, 6, 6, 6, 6, 6, 6, 6, 7, 7, 7, 7, 7, 7, 7, 7, 7, 7, 7, 7, 7, 7, 7, 7, 7, 7, 7, 7, 7, 7, 7, 7, 7, 7, 7, 7, 7, 7, 7, 7, 7, 7, 7, 7, 7, 7, 7, 7, 7, 7, 7, 7, 7, 7, 7, 7, 7, 7, 7, 7, 7, 7, 7, 7, 7, 7, 7, 7, 7, 7, 7, 7, 8, 8, 8, 8, 8, 8, 8, 8, 8, 8, 8, 8, 8, 8, 8, 8, 8, 8, 8, 8, 8, 8, 8, 8, 8, 8, 8, 8, 8, 8, 8, 8, 8, 8, 8, 8, 8, 8, 8, 8, 8, 8, 8, 8, 8, 8, 8, 8, 8, 8, 8, 8, 8, 8, 8, 8, 8, 8, 8, 8, 8, 8, 8, 8, 8, 8, 8, 8, 8, 8, 8, 8, 8, 8, 8, 8, 8, 8, 8, 8, 8, 8, 8, 8, 8, 8, 8, 8, 8, 8, 8, 8, 8, 8, 8, 8, 8, 8, 8, 8, 8, 8, 8, 8, 8, 8, 8, 8, 8, 8, 8, 8, 8, 8, 8, 8, 8, 8, 8, 8, 8, 8, 8, 8, 8, 8, 8, 8]⟩ : ByteArray).size : Int) then (M.ret (IntKind.i64.wrap (16 + (IntKind.i64.wrap (byteAt (⟨#[0, 1, 2, 2, 3, 3, 3, 3, 4, 4, 4, 4, 4, 4, 4, 4, 5, 5, 5, 5, 5, 5, 5, 5, 5, 5, 5, 5, 5, 5, 5, 5, 6, 6, 6, 6, 6, 6, 6, 6, 6, 6, 6, 6, 6, 6, 6, 6, 6, 6, 6, 6, 6, 6, 6, 6, 6, 6, 6, 6, 6, 6, 6, 6, 7, 7, 7, 7, 7, 7, 7, 7, 7, 7, 7, 7, 7, 7, 7, 7, 7, 7, 7, 7, 7, 7, 7, 7, 7, 7, 7, 7, 7, 7, 7, 7, 7, 7, 7, 7, 7, 7, 7, 7, 7, 7, 7, 7, 7, 7, 7, 7, 7, 7, 7, 7, 7, 7, 7, 7, 7, 7, 7, 7, 7, 7, 7, 7, 8, 8, 8, 8, 8, 8, 8, 8, 8, 8, 8, 8, 8, 8, 8, 8, 8, 8, 8, 8, 8, 8, 8, 8, 8, 8, 8, 8, 8, 8, 8, 8, 8, 8, 8, 8, 8, 8, 8, 8, 8, 8, 8, 8, 8, 8, 8, 8, 8, 8, 8, 8, 8, 8, 8, 8, 8, 8, 8, 8, 8, 8, 8, 8, 8, 8, 8, 8, 8, 8, 8, 8, 8, 8, 8, 8, 8, 8, 8, 8, 8, 8, 8, 8, 8, 8, 8, 8, 8, 8, 8, 8, 8, 8, 8, 8, 8, 8, 8, 8, 8, 8, 8, 8, 8, 8, 8, 8, 8, 8, 8, 8, 8, 8, 8, 8, 8, 8, 8, 8, 8, 8, 8, 8, 8, 8, 8, 8]⟩ : ByteArray) (IntKind.u8.wrap (a0.fdiv (2 ^ 16)))))))) else M.none) else M.none)) else (if a0 ≥ 256 then (if 0 ≤ (IntKind.u8.wrap (a0.fdiv (2 ^ 8))) then (if (IntKind.u8.wrap (a0.fdiv (2 ^ 8))) < ((⟨#[0, 1, 2, 2, 3, 3, 3, 3, 4, 4, 4, 4, 4, 4, 4, 4, 5, 5, 5, 5, 5, 5, 5, 5, 5, 5, 5, 5, 5, 5, 5, 5, 6, 6, 6, 6, 6, 6, 6, 6, 6, 6, 6, 6, 6, 6, 6, 6, 6, 6, 6, 6, 6, 6, 6, 6, 6, 6, 6, 6, 6, 6, 6, 6, 7, 7, 7, 7, 7, 7, 7, 7, 7, 7, 7, 7, 7, 7, 7, 7, 7, 7, 7, 7, 7, 7, 7, 7, 7, 7, 7, 7, 7, 7, 7, 7, 7, 7, 7, 7, 7, 7, 7, 7, 7, 7, 7, 7, 7, 7, 7, 7, 7, 7, 7, 7, 7, 7, 7, 7, 7, 7, 7, 7, 7, 7, 7, 7, 8, 8, 8, 8, 8, 8, 8, 8, 8, 8, 8, 8, 8, 8, 8, 8, 8, 8, 8, 8, 8, 8, 8, 8, 8, 8, 8, 8, 8, 8, 8, 8, 8, 8, 8, 8, 8, 8, 8, 8, 8, 8, 8, 8, 8, 8, 8, 8, 8, 8, 8, 8, 8, 8, 8, 8, 8, 8, 8, 8, 8, 8, 8, 8, 8, 8, 8, 8, 8, 8, 8, 8, 8, 8, 8, 8, 8, 8, 8, 8, 8, 8, 8, 8, 8, 8, 8, 8, 8, 8, 8, 8, 8, 8, 8, 8, 8, 8, 8, 8, 8, 8, 8, 8, 8, 8, 8, 8, 8, 8, 8, 8, 8, 8, 8, 8, 8, 8, 8, 8, 8, 8, 8, 8, 8, 8, 8, 8]⟩ : ByteArray).size : Int) then (M.ret (IntKind.i64.wrap ((IntKind.i64.wrap (0 + 8)) + (IntKind.i64.wrap (byteAt (⟨#[0, 1, 2, 2, 3, 3, 3, 3, 4, 4, 4, 4, 4, 4, 4, 4, 5, 5, 5, 5, 5, 5, 5, 5, 5, 5, 5, 5, 5, 5, 5, 5, 6, 6, 6, 6, 6, 6, 6, 6, 6, 6, 6, 6, 6, 6, 6, 6, 6, 6, 6, 6, 6, 6, 6, 6, 6, 6, 6, 6, 6, 6, 6, 6, 7, 7, 7, 7, 7, 7, 7, 7, 7, 7, 7, 7, 7, 7, 7, 7, 7, 7, 7, 7, 7, 7, 7, 7, 7, 7, 7, 7, 7, 7, 7, 7, 7, 7, 7, 7, 7, 7, 7, 7, 7, 7, 7, 7, 7, 7, 7, 7, 7, 7, 7, 7, 7, 7, 7, 7, 7, 7, 7, 7, 7, 7, 7, 7, 8, 8, 8, 8, 8, 8, 8, 8, 8, 8, 8, 8, 8, 8, 8, 8, 8, 8, 8, 8, 8, 8, 8, 8, 8, 8, 8, 8, 8, 8, 8, 8, 8, 8, 8, 8, 8, 8, 8, 8, 8, 8, 8, 8, 8, 8, 8, 8, 8, 8, 8, 8, 8, 8, 8, 8, 8, 8, 8, 8, 8, 8, 8, 8, 8, 8, 8, 8, 8, 8, 8, 8, 8, 8, 8, 8, 8, 8, 8, 8, 8, 8, 8, 8, 8, 8, 8, 8, 8, 8, 8, 8, 8, 8, 8, 8, 8, 8, 8, 8, 8, 8, 8, 8, 8, 8, 8, 8, 8, 8, 8, 8, 8, 8, 8, 8, 8, 8, 8, 8, 8, 8, 8, 8, 8, 8, 8, 8]⟩ : ByteArray) (IntKind.u8.wrap (a0.fdiv (2 ^ 8)))))))) else M.none) else M.none) else (if 0 ≤ (IntKind.u8.wrap (a0)) then (if (IntKind.u8.wrap (a0)) < ((⟨#[0, 1, 2, 2, 3, 3, 3, 3, 4, 4, 4, 4, 4, 4, 4, 4, 5, 5, 5, 5, 5, 5, 5, 5, 5, 5, 5, 5, 5, 5, 5, 5, 6, 6, 6, 6, 6, 6, 6, 6, 6, 6, 6, 6, 6, 6, 6, 6, 6, 6, 6, 6, 6, 6, 6, 6, 6, 6, 6, 6, 6, 6, 6, 6, 7, 7, 7, 7, 7, 7, 7, 7, 7, 7, 7, 7, 7, 7, 7, 7, 7, 7, 7, 7, 7, 7, 7, 7, 7, 7, 7, 7, 7, 7, 7, 7, 7, 7, 7, 7, 7, 7, 7, 7, 7, 7, 7, 7, 7, 7, 7, 7, 7, 7, 7, 7, 7, 7, 7, 7, 7, 7, 7, 7, 7, 7, 7, 7, 8, 8, 8, 8, 8, 8, 8, 8, 8, 8, 8, 8, 8, 8, 8, 8, 8, 8, 8, 8, 8, 8, 8, 8, 8, 8, 8, 8, 8, 8, 8, 8, 8, 8, 8, 8, 8, 8, 8, 8, 8, 8, 8, 8, 8, 8, 8, 8, 8, 8, 8, 8, 8, 8, 8, 8, 8, 8, 8, 8, 8, 8, 8, 8, 8, 8, 8, 8, 8, 8, 8, 8, 8, 8, 8, 8, 8, 8, 8, 8, 8, 8, 8, 8, 8, 8, 8, 8, 8, 8, 8, 8, 8, 8, 8, 8, 8, 8, 8, 8, 8, 8, 8, 8, 8, 8, 8, 8, 8, 8, 8, 8, 8, 8, 8, 8, 8, 8, 8, 8, 8, 8, 8, 8, 8, 8, 8, 8]⟩ : ByteArray).size : Int) then (M.ret (IntKind.i64.wrap (0 + (IntKind.i64.wrap (byteAt (⟨#[0, 1, 2, 2, 3, 3, 3, 3, 4, 4, 4, 4, 4, 4, 4, 4, 5, 5, 5, 5, 5, 5, 5, 5, 5, 5, 5, 5, 5, 5, 5, 5, 6, 6, 6, 6, 6, 6, 6, 6, 6, 6, 6, 6, 6, 6, 6, 6, 6, 6, 6, 6, 6, 6, 6, 6, 6, 6, 6, 6, 6, 6, 6, 6, 7, 7, 7, 7, 7, 7, 7, 7, 7, 7, 7, 7, 7, 7, 7, 7, 7, 7, 7, 7, 7, 7, 7, 7, 7, 7, 7, 7, 7, 7, 7, 7, 7, 7, 7, 7, 7, 7, 7, 7, 7, 7, 7, 7, 7, 7, 7, 7, 7, 7, 7, 7, 7, 7, 7, 7, 7, 7, 7, 7, 7, 7, 7, 7, 8, 8, 8, 8, 8, 8, 8, 8, 8, 8, 8, 8, 8, 8, 8, 8, 8, 8, 8, 8, 8, 8, 8, 8, 8, 8, 8, 8, 8, 8, 8, 8, 8, 8, 8, 8, 8, 8, 8, 8, 8, 8, 8, 8, 8, 8, 8, 8, 8, 8, 8, 8, 8, 8, 8, 8, 8, 8, 8, 8, 8, 8, 8, 8, 8, 8, 8, 8, 8, 8, 8, 8, 8, 8, 8, 8, 8, 8, 8, 8, 8, 8, 8, 8, 8, 8, 8, 8, 8, 8, 8, 8, 8, 8, 8, 8, 8, 8, 8, 8, 8, 8, 8, 8, 8, 8, 8, 8, 8, 8, 8, 8, 8, 8, 8, 8, 8, 8, 8, 8, 8, 8, 8, 8, 8, 8, 8, 8]⟩ : ByteArray) (IntKind.u8.wrap (a0))))))) else M.none) else M.none))) := by kernel_rfl
/-! ### nat_Nat_Bits -/
noncomputable def nat_Nat_Bits.Γ : Ctx := ⟨tys, fun f => bif Nat.beq f 34 then some mbits_Len32.ent else (none), globs, eqs⟩
def nat_Nat_Bits.A : Live := fun i => none
noncomputable def nat_Nat_Bits.f (a0 : List Int) : M Int := evFn nat_Nat_Bits.Γ nat_Nat_Bits.A Tryd.f21 (.agg (.lst (.int .u32))) (.int .i64) a0
noncomputable def nat_Nat_Bits.ent : FnE := .plain (.agg (.lst (.int .u32))) (.int .i64) false fun x => nat_Nat_Bits.f x
theorem nat_Nat_Bits.f_eq {a0 : List Int} : nat_Nat_Bits.f a0 =
    (if (a0.length : Int) = 0 then (M.ret 0) else (if 0 ≤ (IntKind.i64.wrap ((a0.length : Int) - 1)) then (if (IntKind.i64.wrap ((a0.length : Int) - 1)) < (a0.length : Int) then (M.bind (mbits_Len32.f (rdI a0 (IntKind.i64.wrap ((a0.length : Int) - 1)))) fun t1 => (M.ret (IntKind.i64.wrap ((IntKind.i64.wrap (32 * (IntKind.i64.wrap ((a0.length : Int) - 1)))) + t1)))) else M.none) else M.none)) := by kernel_rfl
/-! ### numerarylaw05_TensBack -/
noncomputable def numerarylaw05_TensBack.Γ : Ctx := ⟨tys, fun f => bif Nat.beq f 10 then some numerarylaw05_wakes.ent else (bif Nat.beq f 11 then some nat_Made.ent else (bif Nat.beq f 12 then some numerarylaw05_few.ent else (bif Nat.beq f 17 then some tens_Down.ent else (bif Nat.beq f 19 then some tens_Up.ent else (bif Nat.beq f 20 then some nat_Cmp.ent else (bif Nat.beq f 21 then some nat_Nat_Bits.ent else (bif Nat.beq f 22 then some tens_Noughts.ent else (bif Nat.beq f 23 then some nat_Nat_Limbs.ent else (none))))))))), globs, eqs⟩
def numerarylaw05_TensBack.A : Live := fun i => none
noncomputable def numerarylaw05_TensBack.f (a0 : List Int) (a1 : Int) : M Bool := evFn numerarylaw05_TensBack.Γ numerarylaw05_TensBack.A Tryd.f5 (.pair (.lst (.int .u32)) (.int .u16)) .bool (a0, a1)
noncomputable def numerarylaw05_TensBack.ent : FnE := .plain (.pair (.lst (.int .u32)) (.int .u16)) .bool false fun x => numerarylaw05_TensBack.f x.1 x.2
theorem numerarylaw05_TensBack.f_eq {a0 : List Int} {a1 : Int} : numerarylaw05_TensBack.f a0 a1 =
    (M.bind (numerarylaw05_few.f a0) fun t1 => (M.bind (nat_Made.f t1) fun t2 => (M.bind (tens_Up.f t2 (IntKind.i64.wrap (a1.tmod 2000))) fun t3 => (M.bind (tens_Down.f t3 (IntKind.i64.wrap (a1.tmod 2000))) fun t4 => (M.bind (numerarylaw05_wakes.f ()) fun t5 => (if (!t5) = true then (M.ret false) else (if t4.2 = true then (M.ret false) else (M.bind (nat_Cmp.f t2 t4.1) fun t6 => (if t6 ≠ 0 then (M.ret false) else (M.bind (nat_Nat_Bits.f t2) fun t7 => (if t7 = 0 then (M.bind (tens_Noughts.f t2) fun t8 => (M.ret (decide (t8 = 0)))) else (M.bind (tens_Noughts.f t2) fun t9 => (M.bind (tens_Down.f t2 t9) fun t10 => (M.bind (tens_Down.f t2 (IntKind.i64.wrap (t9 + 1))) fun t11 => (M.bind (nat_Nat_Limbs.f t10.1) fun t12 => (if (!t10.2) = true then (if t11.2 = true then (if (t12.length : Int) > 0 then (if 0 ≤ 0 then (if 0 < (t12.length : Int) then (if (IntKind.u32.wrap ((BitVec.ofInt IntKind.u32.bits (rdI t12 0) &&& BitVec.ofInt IntKind.u32.bits 1).toNat)) = 1 then (M.bind (tens_Up.f t2 (IntKind.i64.wrap (a1.tmod 2000))) fun t13 => (M.bind (tens_Noughts.f t13) fun t14 => (if t14 = (IntKind.i64.wrap (t9 + (IntKind.i64.wrap (a1.tmod 2000)))) then (M.bind (tens_Up.f t2 (IntKind.i64.wrap (a1.tmod 2000))) fun t15 => (M.bind (nat_Nat_Bits.f t15) fun t16 => (M.bind (nat_Nat_Bits.f t2) fun t17 => (M.ret (decide (t16 = (IntKind.i64.wrap (t17 + (IntKind.i64.wrap (a1.tmod 2000)))))))))) else (M.ret false)))) else (M.ret false)) else M.none) else M.none) else (M.ret false)) else (M.ret false)) else (M.ret false))))))))))))))))) := by kernel_rfl
/-! ### mbits_Add32 -/
noncomputable def mbits_Add32.Γ : Ctx := ⟨tys, fun f => none, globs, eqs⟩
def mbits_Add32.A : Live := fun i => none
noncomputable def mbits_Add32.f (a0 : Int) (a1 : Int) (a2 : Int) : M (Int × Int) := evFn mbits_Add32.Γ mbits_Add32.A Tryd.f36 (.pair (.int .u32) (.pair (.int .u32) (.int .u32))) (.pair (.int .u32) (.int .u32)) (a0, a1, a2)
noncomputable def mbits_Add32.ent : FnE := .plain (.pair (.int .u32) (.pair (.int .u32) (.int .u32))) (.pair (.int .u32) (.int .u32)) true fun x => mbits_Add32.f x.1 x.2.1 x.2.2
theorem mbits_Add32.f_eq {a0 : Int} {a1 : Int} {a2 : Int} : mbits_Add32.f a0 a1 a2 =
    (M.ret (IntKind.u32.wrap (IntKind.u64.wrap ((IntKind.u64.wrap ((IntKind.u64.wrap (a0)) + (IntKind.u64.wrap (a1)))) + (IntKind.u64.wrap (a2)))), IntKind.u32.wrap ((IntKind.u64.wrap ((IntKind.u64.wrap ((IntKind.u64.wrap (a0)) + (IntKind.u64.wrap (a1)))) + (IntKind.u64.wrap (a2)))).fdiv (2 ^ 32)))) := by kernel_rfl
/-! ### nat_Nat_at -/
noncomputable def nat_Nat_at.Γ : Ctx := ⟨tys, fun f => none, globs, eqs⟩
def nat_Nat_at.A : Live := fun i => none
noncomputable def nat_Nat_at.f (a0 : List Int) (a1 : Int) : M Int := evFn nat_Nat_at.Γ nat_Nat_at.A Tryd.f37 (.pair (.agg (.lst (.int .u32))) (.int .i64)) (.int .u32) (a0, a1)
noncomputable def nat_Nat_at.ent : FnE := .plain (.pair (.agg (.lst (.int .u32))) (.int .i64)) (.int .u32) false fun x => nat_Nat_at.f x.1 x.2
theorem nat_Nat_at.f_eq {a0 : List Int} {a1 : Int} : nat_Nat_at.f a0 a1 =
    (if a1 < (a0.length : Int) then (if 0 ≤ a1 then (if a1 < (a0.length : Int) then (M.ret (rdI a0 a1)) else M.none) else M.none) else (M.ret 0)) := by kernel_rfl
/-! ### nat_Add -/
noncomputable def nat_Add.Γ : Ctx := ⟨tys, fun f => bif Nat.beq f 11 then some nat_Made.ent else (bif Nat.beq f 36 then some mbits_Add32.ent else (bif Nat.beq f 37 then some nat_Nat_at.ent else (none))), globs, eqs⟩
def nat_Add.l0.live : List (Nat × LK) := [(2, .box [(.lst (.int .u32))]), (3, .box [(.lst (.int .u32))]), (4, .box [(.lst (.int .u32))]), (6, .own true (.int .u32)), (7, .val (.int .u32)), (20, .val (.int .i64)), (21, .val (.int .i64))]
def nat_Add.A : Live := fun i => bif Nat.beq i 10 then some nat_Add.l0.live else (none)
noncomputable def nat_Add.f (a0 : List Int) (a1 : List Int) : M (List Int) := evFn nat_Add.Γ nat_Add.A Tryd.f25 (.pair (.agg (.lst (.int .u32))) (.agg (.lst (.int .u32)))) (.agg (.lst (.int .u32))) (a0, a1)
noncomputable def nat_Add.ent : FnE := .plain (.pair (.agg (.lst (.int .u32))) (.agg (.lst (.int .u32)))) (.agg (.lst (.int .u32))) false fun x => nat_Add.f x.1 x.2
noncomputable def nat_Add.l0.c : Code × Kont (List Int) := focus nat_Add.Γ nat_Add.A (bodyOf Tryd.f25) (finQ nat_Add.Γ Tryd.f25.results.toList (.agg (.lst (.int .u32)))) [.r, .r, .r, .r, .l, .r, .l]
noncomputable def nat_Add.l0 (x2 : List Int) (x3 : List Int) (x4 : List Int) (x6 : List Int) (x7 : Int) (x20 : Int) (x21 : Int) : M (List Int) := loopOf nat_Add.Γ nat_Add.A nat_Add.l0.live nat_Add.l0.c (x2, x3, x4, x6, x7, x20, x21)
theorem nat_Add.l0_eq {x2 : List Int} {x3 : List Int} {x4 : List Int} {x6 : List Int} {x7 : Int} {x20 : Int} {x21 : Int} :
    roundOf nat_Add.Γ nat_Add.A nat_Add.l0.live nat_Add.l0.c (loopOf nat_Add.Γ nat_Add.A nat_Add.l0.live nat_Add.l0.c) (x2, x3, x4, x6, x7, x20, x21) =
    (if x21 < x20 then (M.bind (nat_Nat_at.f x2 x21) fun t1 => (M.bind (nat_Nat_at.f x3 x21) fun t2 => (M.bind (mbits_Add32.f t1 t2 x7) fun t3 => (if 0 ≤ x21 then (if x21 < (x6.length : Int) then (nat_Add.l0 x2 x3 x4 (x6.set x21.toNat t3.1) t3.2 x20 (IntKind.i64.wrap (x21 + 1))) else M.none) else M.none)))) else (M.bind (nat_Made.f x6) fun t4 => (M.ret t4))) := by kernel_rfl
theorem nat_Add.f_eq {a0 : List Int} {a1 : List Int} : nat_Add.f a0 a1 =
    (if 0 ≤ (IntKind.i64.wrap ((mxI (a0.length : Int) (a1.length : Int)) + 1)) then (if (IntKind.i64.wrap ((mxI (a0.length : Int) (a1.length : Int)) + 1)) ≤ 1099511627776 then (nat_Add.l0 a0 a1 ([] : List Int) (List.replicate (IntKind.i64.wrap ((mxI (a0.length : Int) (a1.length : Int)) + 1)).toNat (0 : Int)) 0 ((List.replicate (IntKind.i64.wrap ((mxI (a0.length : Int) (a1.length : Int)) + 1)).toNat (0 : Int)).length : Int) 0) else M.none) else M.none) := by kernel_rfl
end Go.Proofs.YtcepdndhkidehaaDoor.F
