import Derived.Test.YthcmaijnhcmnmaaQNatKeepsN0
import Derived.Test.YthcmaijnhcmnmaaProg
import Derived.KernelRfl
namespace Go.Proofs.Ythcmaijnhcmnmaa.F
open Go Go.Proofs Go.Proofs.Ythcmaijnhcmnmaa.E
set_option linter.unusedVariables false
def tys : TypeId → TI := tyIf 3 (.int .i64) (tyIf 5 (.int .u8) (tyIf 9 (.str) (tyIf 22 (.slice 23 (.int .u32) 1 4) (tyIf 23 (.int .u32) (tyIf 26 (.struct [(0, 1)] 1 [.t .nil ()]) (tyIf 41 (.int .u64) (fun _ => .unk)))))))
def eqs : TypeId → Option Ty := fun i => none
def flds : TypeId → Nat → Option TypeId := fun T k => none
def globs : Nat → Option (IntKind × List Int) := fun i => none
/-! ### numerarylaw02_few -/
noncomputable def numerarylaw02_few.Γ : Ctx := ⟨tys, fun f => none, globs, eqs, flds⟩
def numerarylaw02_few.A : Live := fun i => none
noncomputable def numerarylaw02_few.f (a0 : List Int) : M (List Int) := evFn numerarylaw02_few.Γ numerarylaw02_few.A Try.f4 (.lst (.int .u32)) (.lst (.int .u32)) a0
noncomputable def numerarylaw02_few.ent : FnE := .plain (.lst (.int .u32)) (.lst (.int .u32)) false fun x => numerarylaw02_few.f x
theorem numerarylaw02_few.f_eq {a0 : List Int} : numerarylaw02_few.f a0 =
    (if 0 ≤ (mnI (a0.length : Int) 30) then (if (mnI (a0.length : Int) 30) ≤ (a0.length : Int) then (M.ret (a0.take (mnI (a0.length : Int) 30).toNat)) else M.none) else M.none) := by kernel_rfl
/-! ### slices_Clone_uint32_uint32 -/
noncomputable def slices_Clone_uint32_uint32.Γ : Ctx := ⟨tys, fun f => none, globs, eqs, flds⟩
def slices_Clone_uint32_uint32.A : Live := fun i => none
noncomputable def slices_Clone_uint32_uint32.f (a0 : List Int) : M (List Int) := evFnOwn slices_Clone_uint32_uint32.Γ slices_Clone_uint32_uint32.A Try.f11 (.lst (.int .u32)) (.int .u32) a0
noncomputable def slices_Clone_uint32_uint32.ent : FnE := .own (.lst (.int .u32)) (.int .u32) fun x => slices_Clone_uint32_uint32.f x
theorem slices_Clone_uint32_uint32.f_eq {a0 : List Int} : slices_Clone_uint32_uint32.f a0 =
    (M.nq (a0 = []) (M.ret ([] : List Int)) (if ([] : List Int).length + a0.length ≤ 1099511627776 then (M.ret (([] : List Int) ++ a0)) else M.none)) := by kernel_rfl
/-! ### nat_Made -/
noncomputable def nat_Made.Γ : Ctx := ⟨tys, fun f => bif Nat.beq f 11 then some slices_Clone_uint32_uint32.ent else (none), globs, eqs, flds⟩
def nat_Made.l0.live : List (Nat × LK) := [(0, .val (.lst (.int .u32))), (2, .box [(.lst (.int .u32))]), (3, .val (.int .i64))]
def nat_Made.A : Live := fun i => bif Nat.beq i 4 then some nat_Made.l0.live else (none)
noncomputable def nat_Made.f (a0 : List Int) : M (List Int) := evFnFresh nat_Made.Γ nat_Made.A Try.f5 (.lst (.int .u32)) (.int .u32) a0
noncomputable def nat_Made.ent : FnE := .fresh (.lst (.int .u32)) (.int .u32) fun x => nat_Made.f x
noncomputable def nat_Made.l0.c : Code × Kont (List Int) := focus nat_Made.Γ nat_Made.A (bodyOf Try.f5) (finFresh nat_Made.Γ Try.f5.results.toList (.int .u32)) [.r, .r, .l, .l]
noncomputable def nat_Made.l0 (x0 : List Int) (x2 : List Int) (x3 : Int) : M (List Int) := loopOf nat_Made.Γ nat_Made.A nat_Made.l0.live nat_Made.l0.c (x0, x2, x3)
theorem nat_Made.l0_eq {x0 : List Int} {x2 : List Int} {x3 : Int} :
    roundOf nat_Made.Γ nat_Made.A nat_Made.l0.live nat_Made.l0.c (loopOf nat_Made.Γ nat_Made.A nat_Made.l0.live nat_Made.l0.c) (x0, x2, x3) =
    (if x3 > 0 then (if 0 ≤ (IntKind.i64.wrap (x3 - 1)) then (if (IntKind.i64.wrap (x3 - 1)) < (x0.length : Int) then (if (rdI x0 (IntKind.i64.wrap (x3 - 1))) = 0 then (nat_Made.l0 x0 x2 (IntKind.i64.wrap (x3 - 1))) else (if 0 ≤ x3 then (if x3 ≤ (x0.length : Int) then (M.bind (slices_Clone_uint32_uint32.f (x0.take x3.toNat)) fun t1 => (M.ret t1)) else M.none) else M.none)) else M.none) else M.none) else (if 0 ≤ x3 then (if x3 ≤ (x0.length : Int) then (M.bind (slices_Clone_uint32_uint32.f (x0.take x3.toNat)) fun t2 => (M.ret t2)) else M.none) else M.none)) := by kernel_rfl
theorem nat_Made.f_eq {a0 : List Int} : nat_Made.f a0 =
    (nat_Made.l0 a0 ([] : List Int) (a0.length : Int)) := by kernel_rfl
/-! ### nat_Nat_Limbs -/
noncomputable def nat_Nat_Limbs.Γ : Ctx := ⟨tys, fun f => bif Nat.beq f 11 then some slices_Clone_uint32_uint32.ent else (none), globs, eqs, flds⟩
def nat_Nat_Limbs.A : Live := fun i => none
noncomputable def nat_Nat_Limbs.f (a0 : List Int) : M (List Int) := evFnOwn nat_Nat_Limbs.Γ nat_Nat_Limbs.A Try.f6 (.agg (.lst (.int .u32))) (.int .u32) a0
noncomputable def nat_Nat_Limbs.ent : FnE := .own (.agg (.lst (.int .u32))) (.int .u32) fun x => nat_Nat_Limbs.f x
theorem nat_Nat_Limbs.f_eq {a0 : List Int} : nat_Nat_Limbs.f a0 =
    (M.bind (slices_Clone_uint32_uint32.f a0) fun t1 => (M.ret t1)) := by kernel_rfl
/-! ### mbits_Add32 -/
noncomputable def mbits_Add32.Γ : Ctx := ⟨tys, fun f => none, globs, eqs, flds⟩
def mbits_Add32.A : Live := fun i => none
noncomputable def mbits_Add32.f (a0 : Int) (a1 : Int) (a2 : Int) : M (Int × Int) := evFn mbits_Add32.Γ mbits_Add32.A Try.f12 (.pair (.int .u32) (.pair (.int .u32) (.int .u32))) (.pair (.int .u32) (.int .u32)) (a0, a1, a2)
noncomputable def mbits_Add32.ent : FnE := .plain (.pair (.int .u32) (.pair (.int .u32) (.int .u32))) (.pair (.int .u32) (.int .u32)) true fun x => mbits_Add32.f x.1 x.2.1 x.2.2
theorem mbits_Add32.f_eq {a0 : Int} {a1 : Int} {a2 : Int} : mbits_Add32.f a0 a1 a2 =
    (M.ret (IntKind.u32.wrap (IntKind.u64.wrap ((IntKind.u64.wrap ((IntKind.u64.wrap (a0)) + (IntKind.u64.wrap (a1)))) + (IntKind.u64.wrap (a2)))), IntKind.u32.wrap ((IntKind.u64.wrap ((IntKind.u64.wrap ((IntKind.u64.wrap (a0)) + (IntKind.u64.wrap (a1)))) + (IntKind.u64.wrap (a2)))).fdiv (2 ^ 32)))) := by kernel_rfl
/-! ### nat_Nat_at -/
noncomputable def nat_Nat_at.Γ : Ctx := ⟨tys, fun f => none, globs, eqs, flds⟩
def nat_Nat_at.A : Live := fun i => none
noncomputable def nat_Nat_at.f (a0 : List Int) (a1 : Int) : M Int := evFn nat_Nat_at.Γ nat_Nat_at.A Try.f13 (.pair (.agg (.lst (.int .u32))) (.int .i64)) (.int .u32) (a0, a1)
noncomputable def nat_Nat_at.ent : FnE := .plain (.pair (.agg (.lst (.int .u32))) (.int .i64)) (.int .u32) false fun x => nat_Nat_at.f x.1 x.2
theorem nat_Nat_at.f_eq {a0 : List Int} {a1 : Int} : nat_Nat_at.f a0 a1 =
    (if a1 < (a0.length : Int) then (if 0 ≤ a1 then (if a1 < (a0.length : Int) then (M.ret (rdI a0 a1)) else M.none) else M.none) else (M.ret 0)) := by kernel_rfl
/-! ### nat_Add -/
noncomputable def nat_Add.Γ : Ctx := ⟨tys, fun f => bif Nat.beq f 5 then some nat_Made.ent else (bif Nat.beq f 12 then some mbits_Add32.ent else (bif Nat.beq f 13 then some nat_Nat_at.ent else (none))), globs, eqs, flds⟩
def nat_Add.l0.live : List (Nat × LK) := [(2, .box [(.lst (.int .u32))]), (3, .box [(.lst (.int .u32))]), (4, .box [(.lst (.int .u32))]), (6, .own true (.int .u32)), (7, .val (.int .u32)), (20, .val (.int .i64)), (21, .val (.int .i64))]
def nat_Add.A : Live := fun i => bif Nat.beq i 10 then some nat_Add.l0.live else (none)
noncomputable def nat_Add.f (a0 : List Int) (a1 : List Int) : M (List Int) := evFn nat_Add.Γ nat_Add.A Try.f7 (.pair (.agg (.lst (.int .u32))) (.agg (.lst (.int .u32)))) (.agg (.lst (.int .u32))) (a0, a1)
noncomputable def nat_Add.ent : FnE := .plain (.pair (.agg (.lst (.int .u32))) (.agg (.lst (.int .u32)))) (.agg (.lst (.int .u32))) false fun x => nat_Add.f x.1 x.2
noncomputable def nat_Add.l0.c : Code × Kont (List Int) := focus nat_Add.Γ nat_Add.A (bodyOf Try.f7) (finQ nat_Add.Γ Try.f7.results.toList (.agg (.lst (.int .u32)))) [.r, .r, .r, .r, .l, .r, .l]
noncomputable def nat_Add.l0 (x2 : List Int) (x3 : List Int) (x4 : List Int) (x6 : List Int) (x7 : Int) (x20 : Int) (x21 : Int) : M (List Int) := loopOf nat_Add.Γ nat_Add.A nat_Add.l0.live nat_Add.l0.c (x2, x3, x4, x6, x7, x20, x21)
theorem nat_Add.l0_eq {x2 : List Int} {x3 : List Int} {x4 : List Int} {x6 : List Int} {x7 : Int} {x20 : Int} {x21 : Int} :
    roundOf nat_Add.Γ nat_Add.A nat_Add.l0.live nat_Add.l0.c (loopOf nat_Add.Γ nat_Add.A nat_Add.l0.live nat_Add.l0.c) (x2, x3, x4, x6, x7, x20, x21) =
    (if x21 < x20 then (M.bind (nat_Nat_at.f x2 x21) fun t1 => (M.bind (nat_Nat_at.f x3 x21) fun t2 => (M.bind (mbits_Add32.f t1 t2 x7) fun t3 => (if 0 ≤ x21 then (if x21 < (x6.length : Int) then (nat_Add.l0 x2 x3 x4 (x6.set x21.toNat t3.1) t3.2 x20 (IntKind.i64.wrap (x21 + 1))) else M.none) else M.none)))) else (M.bind (nat_Made.f x6) fun t4 => (M.ret t4))) := by kernel_rfl
theorem nat_Add.f_eq {a0 : List Int} {a1 : List Int} : nat_Add.f a0 a1 =
    (if 0 ≤ (IntKind.i64.wrap ((mxI (a0.length : Int) (a1.length : Int)) + 1)) then (if (IntKind.i64.wrap ((mxI (a0.length : Int) (a1.length : Int)) + 1)) ≤ 1099511627776 then (nat_Add.l0 a0 a1 ([] : List Int) (List.replicate (IntKind.i64.wrap ((mxI (a0.length : Int) (a1.length : Int)) + 1)).toNat (0 : Int)) 0 ((List.replicate (IntKind.i64.wrap ((mxI (a0.length : Int) (a1.length : Int)) + 1)).toNat (0 : Int)).length : Int) 0) else M.none) else M.none) := by kernel_rfl
/-! ### cmp_isNaN_int -/
noncomputable def cmp_isNaN_int.Γ : Ctx := ⟨tys, fun f => none, globs, eqs, flds⟩
def cmp_isNaN_int.A : Live := fun i => none
noncomputable def cmp_isNaN_int.f (a0 : Int) : M Bool := evFn cmp_isNaN_int.Γ cmp_isNaN_int.A Try.f20 (.int .i64) .bool a0
noncomputable def cmp_isNaN_int.ent : FnE := .plain (.int .i64) .bool false fun x => cmp_isNaN_int.f x
theorem cmp_isNaN_int.f_eq {a0 : Int} : cmp_isNaN_int.f a0 =
    (M.ret (decide (a0 ≠ a0))) := by kernel_rfl
/-! ### cmp_Compare_int -/
noncomputable def cmp_Compare_int.Γ : Ctx := ⟨tys, fun f => bif Nat.beq f 20 then some cmp_isNaN_int.ent else (none), globs, eqs, flds⟩
def cmp_Compare_int.A : Live := fun i => none
noncomputable def cmp_Compare_int.f (a0 : Int) (a1 : Int) : M Int := evFn cmp_Compare_int.Γ cmp_Compare_int.A Try.f15 (.pair (.int .i64) (.int .i64)) (.int .i64) (a0, a1)
noncomputable def cmp_Compare_int.ent : FnE := .plain (.pair (.int .i64) (.int .i64)) (.int .i64) false fun x => cmp_Compare_int.f x.1 x.2
theorem cmp_Compare_int.f_eq {a0 : Int} {a1 : Int} : cmp_Compare_int.f a0 a1 =
    (M.bind (cmp_isNaN_int.f a0) fun t1 => (M.bind (cmp_isNaN_int.f a1) fun t2 => (if t1 = true then (if t2 = true then (M.ret 0) else (M.ret (-1))) else (if t2 = true then (M.ret 1) else (if a0 < a1 then (M.ret (-1)) else (if a0 > a1 then (M.ret 1) else (M.ret 0))))))) := by kernel_rfl
/-! ### cmp_isNaN_uint32 -/
noncomputable def cmp_isNaN_uint32.Γ : Ctx := ⟨tys, fun f => none, globs, eqs, flds⟩
def cmp_isNaN_uint32.A : Live := fun i => none
noncomputable def cmp_isNaN_uint32.f (a0 : Int) : M Bool := evFn cmp_isNaN_uint32.Γ cmp_isNaN_uint32.A Try.f21 (.int .u32) .bool a0
noncomputable def cmp_isNaN_uint32.ent : FnE := .plain (.int .u32) .bool false fun x => cmp_isNaN_uint32.f x
theorem cmp_isNaN_uint32.f_eq {a0 : Int} : cmp_isNaN_uint32.f a0 =
    (M.ret (decide (a0 ≠ a0))) := by kernel_rfl
/-! ### cmp_Compare_uint32 -/
noncomputable def cmp_Compare_uint32.Γ : Ctx := ⟨tys, fun f => bif Nat.beq f 21 then some cmp_isNaN_uint32.ent else (none), globs, eqs, flds⟩
def cmp_Compare_uint32.A : Live := fun i => none
noncomputable def cmp_Compare_uint32.f (a0 : Int) (a1 : Int) : M Int := evFn cmp_Compare_uint32.Γ cmp_Compare_uint32.A Try.f16 (.pair (.int .u32) (.int .u32)) (.int .i64) (a0, a1)
noncomputable def cmp_Compare_uint32.ent : FnE := .plain (.pair (.int .u32) (.int .u32)) (.int .i64) false fun x => cmp_Compare_uint32.f x.1 x.2
theorem cmp_Compare_uint32.f_eq {a0 : Int} {a1 : Int} : cmp_Compare_uint32.f a0 a1 =
    (M.bind (cmp_isNaN_uint32.f a0) fun t1 => (M.bind (cmp_isNaN_uint32.f a1) fun t2 => (if t1 = true then (if t2 = true then (M.ret 0) else (M.ret (-1))) else (if t2 = true then (M.ret 1) else (if a0 < a1 then (M.ret (-1)) else (if a0 > a1 then (M.ret 1) else (M.ret 0))))))) := by kernel_rfl
/-! ### nat_Cmp -/
noncomputable def nat_Cmp.Γ : Ctx := ⟨tys, fun f => bif Nat.beq f 15 then some cmp_Compare_int.ent else (bif Nat.beq f 16 then some cmp_Compare_uint32.ent else (none)), globs, eqs, flds⟩
def nat_Cmp.l0.live : List (Nat × LK) := [(2, .box [(.lst (.int .u32))]), (3, .box [(.lst (.int .u32))]), (6, .val (.int .i64))]
def nat_Cmp.A : Live := fun i => bif Nat.beq i 10 then some nat_Cmp.l0.live else (none)
noncomputable def nat_Cmp.f (a0 : List Int) (a1 : List Int) : M Int := evFn nat_Cmp.Γ nat_Cmp.A Try.f9 (.pair (.agg (.lst (.int .u32))) (.agg (.lst (.int .u32)))) (.int .i64) (a0, a1)
noncomputable def nat_Cmp.ent : FnE := .plain (.pair (.agg (.lst (.int .u32))) (.agg (.lst (.int .u32)))) (.int .i64) false fun x => nat_Cmp.f x.1 x.2
noncomputable def nat_Cmp.l0.c : Code × Kont Int := focus nat_Cmp.Γ nat_Cmp.A (bodyOf Try.f9) (finQ nat_Cmp.Γ Try.f9.results.toList (.int .i64)) [.r, .r, .l, .r, .l]
noncomputable def nat_Cmp.l0 (x2 : List Int) (x3 : List Int) (x6 : Int) : M Int := loopOf nat_Cmp.Γ nat_Cmp.A nat_Cmp.l0.live nat_Cmp.l0.c (x2, x3, x6)
theorem nat_Cmp.l0_eq {x2 : List Int} {x3 : List Int} {x6 : Int} :
    roundOf nat_Cmp.Γ nat_Cmp.A nat_Cmp.l0.live nat_Cmp.l0.c (loopOf nat_Cmp.Γ nat_Cmp.A nat_Cmp.l0.live nat_Cmp.l0.c) (x2, x3, x6) =
    (if x6 ≥ 0 then (if 0 ≤ x6 then (if x6 < (x2.length : Int) then (if 0 ≤ x6 then (if x6 < (x3.length : Int) then (M.bind (cmp_Compare_uint32.f (rdI x2 x6) (rdI x3 x6)) fun t1 => (if t1 ≠ 0 then (M.ret t1) else (nat_Cmp.l0 x2 x3 (IntKind.i64.wrap (x6 - 1))))) else M.none) else M.none) else M.none) else M.none) else (M.ret 0)) := by kernel_rfl
theorem nat_Cmp.f_eq {a0 : List Int} {a1 : List Int} : nat_Cmp.f a0 a1 =
    (M.bind (cmp_Compare_int.f (a0.length : Int) (a1.length : Int)) fun t1 => (if t1 ≠ 0 then (M.ret t1) else (nat_Cmp.l0 a0 a1 (IntKind.i64.wrap ((a0.length : Int) - 1))))) := by kernel_rfl
/-! ### mbits_Sub32 -/
noncomputable def mbits_Sub32.Γ : Ctx := ⟨tys, fun f => none, globs, eqs, flds⟩
def mbits_Sub32.A : Live := fun i => none
noncomputable def mbits_Sub32.f (a0 : Int) (a1 : Int) (a2 : Int) : M (Int × Int) := evFn mbits_Sub32.Γ mbits_Sub32.A Try.f14 (.pair (.int .u32) (.pair (.int .u32) (.int .u32))) (.pair (.int .u32) (.int .u32)) (a0, a1, a2)
noncomputable def mbits_Sub32.ent : FnE := .plain (.pair (.int .u32) (.pair (.int .u32) (.int .u32))) (.pair (.int .u32) (.int .u32)) true fun x => mbits_Sub32.f x.1 x.2.1 x.2.2
theorem mbits_Sub32.f_eq {a0 : Int} {a1 : Int} {a2 : Int} : mbits_Sub32.f a0 a1 a2 =
    (M.ret (IntKind.u32.wrap ((IntKind.u32.wrap (a0 - a1)) - a2), (IntKind.u32.wrap ((BitVec.ofInt IntKind.u32.bits (IntKind.u32.wrap ((BitVec.ofInt IntKind.u32.bits (IntKind.u32.wrap ((BitVec.ofInt IntKind.u32.bits (4294967295) ^^^ BitVec.ofInt IntKind.u32.bits a0).toNat)) &&& BitVec.ofInt IntKind.u32.bits a1).toNat)) ||| BitVec.ofInt IntKind.u32.bits (IntKind.u32.wrap ((BitVec.ofInt IntKind.u32.bits (IntKind.u32.wrap ((BitVec.ofInt IntKind.u32.bits (4294967295) ^^^ BitVec.ofInt IntKind.u32.bits (IntKind.u32.wrap ((BitVec.ofInt IntKind.u32.bits a0 ^^^ BitVec.ofInt IntKind.u32.bits a1).toNat))).toNat)) &&& BitVec.ofInt IntKind.u32.bits (IntKind.u32.wrap ((IntKind.u32.wrap (a0 - a1)) - a2))).toNat))).toNat)).fdiv (2 ^ 31))) := by kernel_rfl
/-! ### nat_Sub -/
noncomputable def nat_Sub.Γ : Ctx := ⟨tys, fun f => bif Nat.beq f 5 then some nat_Made.ent else (bif Nat.beq f 9 then some nat_Cmp.ent else (bif Nat.beq f 13 then some nat_Nat_at.ent else (bif Nat.beq f 14 then some mbits_Sub32.ent else (none)))), globs, eqs, flds⟩
def nat_Sub.l0.live : List (Nat × LK) := [(2, .box [(.lst (.int .u32))]), (3, .box [(.lst (.int .u32))]), (4, .box [(.lst (.int .u32))]), (6, .own true (.int .u32)), (7, .val (.int .u32)), (19, .val (.int .i64)), (20, .val (.int .i64))]
def nat_Sub.A : Live := fun i => bif Nat.beq i 12 then some nat_Sub.l0.live else (none)
noncomputable def nat_Sub.f (a0 : List Int) (a1 : List Int) : M ((List Int) × Bool) := evFn nat_Sub.Γ nat_Sub.A Try.f8 (.pair (.agg (.lst (.int .u32))) (.agg (.lst (.int .u32)))) (.pair (.agg (.lst (.int .u32))) .bool) (a0, a1)
noncomputable def nat_Sub.ent : FnE := .plain (.pair (.agg (.lst (.int .u32))) (.agg (.lst (.int .u32)))) (.pair (.agg (.lst (.int .u32))) .bool) true fun x => nat_Sub.f x.1 x.2
noncomputable def nat_Sub.l0.c : Code × Kont ((List Int) × Bool) := focus nat_Sub.Γ nat_Sub.A (bodyOf Try.f8) (finQ nat_Sub.Γ Try.f8.results.toList (.pair (.agg (.lst (.int .u32))) .bool)) [.r, .r, .r, .r, .l, .r, .l]
noncomputable def nat_Sub.l0 (x2 : List Int) (x3 : List Int) (x4 : List Int) (x6 : List Int) (x7 : Int) (x19 : Int) (x20 : Int) : M ((List Int) × Bool) := loopOf nat_Sub.Γ nat_Sub.A nat_Sub.l0.live nat_Sub.l0.c (x2, x3, x4, x6, x7, x19, x20)
theorem nat_Sub.l0_eq {x2 : List Int} {x3 : List Int} {x4 : List Int} {x6 : List Int} {x7 : Int} {x19 : Int} {x20 : Int} :
    roundOf nat_Sub.Γ nat_Sub.A nat_Sub.l0.live nat_Sub.l0.c (loopOf nat_Sub.Γ nat_Sub.A nat_Sub.l0.live nat_Sub.l0.c) (x2, x3, x4, x6, x7, x19, x20) =
    (if x20 < x19 then (M.bind (nat_Nat_at.f x2 x20) fun t1 => (M.bind (nat_Nat_at.f x3 x20) fun t2 => (M.bind (mbits_Sub32.f t1 t2 x7) fun t3 => (if 0 ≤ x20 then (if x20 < (x6.length : Int) then (nat_Sub.l0 x2 x3 x4 (x6.set x20.toNat t3.1) t3.2 x19 (IntKind.i64.wrap (x20 + 1))) else M.none) else M.none)))) else (M.bind (nat_Made.f x6) fun t4 => (M.ret (t4, true)))) := by kernel_rfl
theorem nat_Sub.f_eq {a0 : List Int} {a1 : List Int} : nat_Sub.f a0 a1 =
    (M.bind (nat_Cmp.f a0 a1) fun t1 => (if t1 < 0 then (M.ret (([] : List Int), false)) else (if 0 ≤ (a0.length : Int) then (if (a0.length : Int) ≤ 1099511627776 then (nat_Sub.l0 a0 a1 ([] : List Int) (List.replicate (a0.length : Int).toNat (0 : Int)) 0 ((List.replicate (a0.length : Int).toNat (0 : Int)).length : Int) 0) else M.none) else M.none))) := by kernel_rfl
/-! ### nat_Of -/
noncomputable def nat_Of.Γ : Ctx := ⟨tys, fun f => bif Nat.beq f 5 then some nat_Made.ent else (none), globs, eqs, flds⟩
def nat_Of.A : Live := fun i => none
noncomputable def nat_Of.f (a0 : Int) : M (List Int) := evFn nat_Of.Γ nat_Of.A Try.f17 (.int .u64) (.agg (.lst (.int .u32))) a0
noncomputable def nat_Of.ent : FnE := .plain (.int .u64) (.agg (.lst (.int .u32))) false fun x => nat_Of.f x
theorem nat_Of.f_eq {a0 : Int} : nat_Of.f a0 =
    (M.bind (nat_Made.f ([IntKind.u32.wrap (a0), IntKind.u32.wrap (a0.fdiv (2 ^ 32))] : List Int)) fun t1 => (M.ret t1)) := by kernel_rfl
/-! ### nat_Nat_Small -/
noncomputable def nat_Nat_Small.Γ : Ctx := ⟨tys, fun f => none, globs, eqs, flds⟩
def nat_Nat_Small.l0.live : List (Nat × LK) := [(4, .val (.int .u64)), (12, .val (.lst (.int .u32))), (13, .val (.int .i64)), (14, .val (.int .i64))]
def nat_Nat_Small.A : Live := fun i => bif Nat.beq i 10 then some nat_Nat_Small.l0.live else (none)
noncomputable def nat_Nat_Small.f (a0 : List Int) : M (Int × Bool) := evFn nat_Nat_Small.Γ nat_Nat_Small.A Try.f18 (.agg (.lst (.int .u32))) (.pair (.int .u64) .bool) a0
noncomputable def nat_Nat_Small.ent : FnE := .plain (.agg (.lst (.int .u32))) (.pair (.int .u64) .bool) true fun x => nat_Nat_Small.f x
noncomputable def nat_Nat_Small.l0.c : Code × Kont (Int × Bool) := focus nat_Nat_Small.Γ nat_Nat_Small.A (bodyOf Try.f18) (finQ nat_Nat_Small.Γ Try.f18.results.toList (.pair (.int .u64) .bool)) [.r, .r, .r, .l, .r, .l]
noncomputable def nat_Nat_Small.l0 (x4 : Int) (x12 : List Int) (x13 : Int) (x14 : Int) : M (Int × Bool) := loopOf nat_Nat_Small.Γ nat_Nat_Small.A nat_Nat_Small.l0.live nat_Nat_Small.l0.c (x4, x12, x13, x14)
theorem nat_Nat_Small.l0_eq {x4 : Int} {x12 : List Int} {x13 : Int} {x14 : Int} :
    roundOf nat_Nat_Small.Γ nat_Nat_Small.A nat_Nat_Small.l0.live nat_Nat_Small.l0.c (loopOf nat_Nat_Small.Γ nat_Nat_Small.A nat_Nat_Small.l0.live nat_Nat_Small.l0.c) (x4, x12, x13, x14) =
    (if x14 < x13 then (if 0 ≤ x14 then (if x14 < (x12.length : Int) then (if 0 ≤ IntKind.i64.wrap (32 * x14) then (nat_Nat_Small.l0 (IntKind.u64.wrap ((BitVec.ofInt IntKind.u64.bits x4 ||| BitVec.ofInt IntKind.u64.bits (IntKind.u64.wrap ((IntKind.u64.wrap (rdI x12 x14)) * 2 ^ (min (IntKind.i64.wrap (32 * x14)).toNat 64)))).toNat)) x12 x13 (IntKind.i64.wrap (x14 + 1))) else M.none) else M.none) else M.none) else (M.ret (x4, true))) := by kernel_rfl
theorem nat_Nat_Small.f_eq {a0 : List Int} : nat_Nat_Small.f a0 =
    (if (a0.length : Int) > 2 then (M.ret (0, false)) else (nat_Nat_Small.l0 0 a0 (a0.length : Int) 0)) := by kernel_rfl
/-! ### mbits_Len32 -/
noncomputable def mbits_Len32.Γ : Ctx := ⟨tys, fun f => none, globs, eqs, flds⟩
def mbits_Len32.A : Live := fun i => none
noncomputable def mbits_Len32.f (a0 : Int) : M Int := evFn mbits_Len32.Γ mbits_Len32.A Try.f22 (.int .u32) (.int .i64) a0
noncomputable def mbits_Len32.ent : FnE := .plain (.int .u32) (.int .i64) false fun x => mbits_Len32.f x
theorem mbits_Len32.f_eq {a0 : Int} : mbits_Len32.f a0 =
    (if a0 ≥ 65536 then (if (a0.fdiv (2 ^ 16)) ≥ 256 then (if 0 ≤ (IntKind.u8.wrap ((a0.fdiv (2 ^ 16)).fdiv (2 ^ 8))) then (if (IntKind.u8.wrap ((a0.fdiv (2 ^ 16)).fdiv (2 ^ 8))) < ((⟨#[0, 1, 2, 2, 3, 3, 3, 3, 4, 4, 4, 4, 4, 4, 4, 4, 5, 5, 5, 5, 5, 5, 5, 5, 5, 5, 5, 5, 5, 5, 5, 5, 6, 6, 6, 6, 6, 6, 6, 6, 6, 6, 6, 6, 6, 6, 6, 6, 6, 6, 6, 6, 6, 6, 6, 6, 6, 6, 6, 6, 6, 6, 6, 6, 7, 7, 7, 7, 7, 7, 7, 7, 7, 7, 7, 7, 7, 7, 7, 7, 7, 7, 7, 7, 7, 7, 7, 7, 7, 7, 7, 7, 7, 7, 7, 7, 7, 7, 7, 7, 7, 7, 7, 7, 7, 7, 7, 7, 7, 7, 7, 7, 7, 7, 7, 7, 7, 7, 7, 7, 7, 7, 7, 7, 7, 7, 7, 7, 8, 8, 8, 8, 8, 8, 8, 8, 8, 8, 8, 8, 8, 8, 8, 8, 8, 8, 8, 8, 8, 8, 8, 8, 8, 8, 8, 8, 8, 8, 8, 8, 8, 8, 8, 8, 8, 8, 8, 8, 8, 8, 8, 8, 8, 8, 8, 8, 8, 8, 8, 8, 8, 8, 8, 8, 8, 8, 8, 8, 8, 8, 8, 8, 8, 8, 8, 8, 8, 8, 8, 8, 8, 8, 8, 8, 8, 8, 8, 8, 8, 8, 8, 8, 8, 8, 8, 8, 8, 8, 8, 8, 8, 8, 8, 8, 8, 8, 8, 8, 8, 8, 8, 8, 8, 8, 8, 8, 8, 8, 8, 8, 8, 8, 8, 8, 8, 8, 8, 8, 8, 8, 8, 8, 8, 8, 8, 8]⟩ : ByteArray).size : Int) then (M.ret (IntKind.i64.wrap ((IntKind.i64.wrap (16 + 8)) + (IntKind.i64.wrap (byteAt (⟨#[0, 1, 2, 2, 3, 3, 3, 3, 4, 4, 4, 4, 4, 4, 4, 4, 5, 5, 5, 5, 5, 5, 5, 5, 5, 5, 5, 5, 5, 5, 5, 5, 6, 6, 6, 6, 6, 6, 6, 6, 6, 6, 6, 6, 6, 6, 6, 6, 6, 6, 6, 6, 6, 6, 6, 6, 6, 6, 6, 6, 6, 6, 6, 6, 7, 7, 7, 7, 7, 7, 7, 7, 7, 7, 7, 7, 7, 7, 7, 7, 7, 7, 7, 7, 7, 7, 7, 7, 7, 7, 7, 7, 7, 7, 7, 7, 7, 7, 7, 7, 7, 7, 7, 7, 7, 7, 7, 7, 7, 7, 7, 7, 7, 7, 7, 7, 7, 7, 7, 7, 7, 7, 7, 7, 7, 7, 7, 7, 8, 8, 8, 8, 8, 8, 8, 8, 8, 8, 8, 8, 8, 8, 8, 8, 8, 8, 8, 8, 8, 8, 8, 8, 8, 8, 8, 8, 8, 8, 8, 8, 8, 8, 8, 8, 8, 8, 8, 8, 8, 8, 8, 8, 8, 8, 8, 8, 8, 8, 8, 8, 8, 8, 8, 8, 8, 8, 8, 8, 8, 8, 8, 8, 8, 8, 8, 8, 8, 8, 8, 8, 8, 8, 8, 8, 8, 8, 8, 8, 8, 8, 8, 8, 8, 8, 8, 8, 8, 8, 8, 8, 8, 8, 8, 8, 8, 8, 8, 8, 8, 8, 8, 8, 8, 8, 8, 8, 8, 8, 8, 8, 8, 8, 8, 8, 8, 8, 8, 8, 8, 8, 8, 8, 8, 8, 8, 8]⟩ : ByteArray) (IntKind.u8.wrap ((a0.fdiv (2 ^ 16)).fdiv (2 ^ 8)))))))) else M.none) else M.none) else (if 0 ≤ (IntKind.u8.wrap (a0.fdiv (2 ^ 16))) then (if (IntKind.u8.wrap (a0.fdiv (2 ^ 16))) < ((⟨#[0, 1, 2, 2, 3, 3, 3, 3, 4, 4, 4, 4, 4, 4, 4, 4, 5, 5, 5, 5, 5, 5, 5, 5, 5, 5, 5, 5, 5, 5, 5, 5, 6, 6, 6, 6, 6, 6, 6, 6, 6, 6, 6, 6, 6, 6, 6, 6, 6, 6, 6, 6, 6, 6, 6, 6, 6, 6, 6, 6, 6, 6, 6, 6, 7, 7, 7, 7, 7, 7, 7, 7, 7, 7, 7, 7, 7, 7, 7, 7, 7, 7, 7, 7, 7, 7, 7, 7, 7, 7, 7, 7, 7, 7, 7, 7, 7, 7, 7, 7, 7, 7, 7, 7, 7, 7, 7, 7, 7, 7, 7, 7, 7, 7, 7, 7, 7, 7, 7, 7, 7, 7, 7, 7, 7, 7, 7, 7, 8, 8, 8, 8, 8, 8, 8, 8, 8, 8, 8, 8, 8, 8, 8, 8, 8, 8, 8, 8, 8, 8, 8, 8, 8, 8, 8, 8, 8, 8, 8, 8, 8, 8, 8, 8, 8, 8, 8, 8, 8, 8, 8, 8, 8, 8, 8, 8, 8, 8, 8, 8, 8, 8, 8, 8, 8, 8, 8, 8, 8, 8, 8, 8, 8, 8, 8, 8, 8, 8, 8, 8, 8, 8, 8, 8, 8, 8, 8, 8, 8, 8, 8, 8, 8, 8, 8, 8, 8, 8, 8, 8, 8, 8, 8, 8, 8, 8, 8, 8, 8, 8, 8, 8, 8, 8, 8, 8, 8, 8, 8, 8, 8, 8, 8, 8, 8, 8, 8, 8, 8, 8, 8, 8, 8, 8, 8, 8]⟩ : ByteArray).size : Int) then (M.ret (IntKind.i64.wrap (16 + (IntKind.i64.wrap (byteAt (⟨#[0, 1, 2, 2, 3, 3, 3, 3, 4, 4, 4, 4, 4, 4, 4, 4, 5, 5, 5, 5, 5, 5, 5, 5, 5, 5, 5, 5, 5, 5, 5, 5, 6, 6, 6, 6, 6, 6, 6, 6, 6, 6, 6, 6, 6, 6, 6, 6, 6, 6, 6, 6, 6, 6, 6, 6, 6, 6, 6, 6, 6, 6, 6, 6, 7, 7, 7, 7, 7, 7, 7, 7, 7, 7, 7, 7, 7, 7, 7, 7, 7, 7, 7, 7, 7, 7, 7, 7, 7, 7, 7, 7, 7, 7, 7, 7, 7, 7, 7, 7, 7, 7, 7, 7, 7, 7, 7, 7, 7, 7, 7, 7, 7, 7, 7, 7, 7, 7, 7, 7, 7, 7, 7, 7, 7, 7, 7, 7, 8, 8, 8, 8, 8, 8, 8, 8, 8, 8, 8, 8, 8, 8, 8, 8, 8, 8, 8, 8, 8, 8, 8, 8, 8, 8, 8, 8, 8, 8, 8, 8, 8, 8, 8, 8, 8, 8, 8, 8, 8, 8, 8, 8, 8, 8, 8, 8, 8, 8, 8, 8, 8, 8, 8, 8, 8, 8, 8, 8, 8, 8, 8, 8, 8, 8, 8, 8, 8, 8, 8, 8, 8, 8, 8, 8, 8, 8, 8, 8, 8, 8, 8, 8, 8, 8, 8, 8, 8, 8, 8, 8, 8, 8, 8, 8, 8, 8, 8, 8, 8, 8, 8, 8, 8, 8, 8, 8, 8, 8, 8, 8, 8, 8, 8, 8, 8, 8, 8, 8, 8, 8, 8, 8, 8, 8, 8, 8]⟩ : ByteArray) (IntKind.u8.wrap (a0.fdiv (2 ^ 16)))))))) else M.none) else M.none)) else (if a0 ≥ 256 then (if 0 ≤ (IntKind.u8.wrap (a0.fdiv (2 ^ 8))) then (if (IntKind.u8.wrap (a0.fdiv (2 ^ 8))) < ((⟨#[0, 1, 2, 2, 3, 3, 3, 3, 4, 4, 4, 4, 4, 4, 4, 4, 5, 5, 5, 5, 5, 5, 5, 5, 5, 5, 5, 5, 5, 5, 5, 5, 6, 6, 6, 6, 6, 6, 6, 6, 6, 6, 6, 6, 6, 6, 6, 6, 6, 6, 6, 6, 6, 6, 6, 6, 6, 6, 6, 6, 6, 6, 6, 6, 7, 7, 7, 7, 7, 7, 7, 7, 7, 7, 7, 7, 7, 7, 7, 7, 7, 7, 7, 7, 7, 7, 7, 7, 7, 7, 7, 7, 7, 7, 7, 7, 7, 7, 7, 7, 7, 7, 7, 7, 7, 7, 7, 7, 7, 7, 7, 7, 7, 7, 7, 7, 7, 7, 7, 7, 7, 7, 7, 7, 7, 7, 7, 7, 8, 8, 8, 8, 8, 8, 8, 8, 8, 8, 8, 8, 8, 8, 8, 8, 8, 8, 8, 8, 8, 8, 8, 8, 8, 8, 8, 8, 8, 8, 8, 8, 8, 8, 8, 8, 8, 8, 8, 8, 8, 8, 8, 8, 8, 8, 8, 8, 8, 8, 8, 8, 8, 8, 8, 8, 8, 8, 8, 8, 8, 8, 8, 8, 8, 8, 8, 8, 8, 8, 8, 8, 8, 8, 8, 8, 8, 8, 8, 8, 8, 8, 8, 8, 8, 8, 8, 8, 8, 8, 8, 8, 8, 8, 8, 8, 8, 8, 8, 8, 8, 8, 8, 8, 8, 8, 8, 8, 8, 8, 8, 8, 8, 8, 8, 8, 8, 8, 8, 8, 8, 8, 8, 8, 8, 8, 8, 8]⟩ : ByteArray).size : Int) then (M.ret (IntKind.i64.wrap ((IntKind.i64.wrap (0 + 8)) + (IntKind.i64.wrap (byteAt (⟨#[0, 1, 2, 2, 3, 3, 3, 3, 4, 4, 4, 4, 4, 4, 4, 4, 5, 5, 5, 5, 5, 5, 5, 5, 5, 5, 5, 5, 5, 5, 5, 5, 6, 6, 6, 6, 6, 6, 6, 6, 6, 6, 6, 6, 6, 6, 6, 6, 6, 6, 6, 6, 6, 6, 6, 6, 6, 6, 6, 6, 6, 6, 6, 6, 7, 7, 7, 7, 7, 7, 7, 7, 7, 7, 7, 7, 7, 7, 7, 7, 7, 7, 7, 7, 7, 7, 7, 7, 7, 7, 7, 7, 7, 7, 7, 7, 7, 7, 7, 7, 7, 7, 7, 7, 7, 7, 7, 7, 7, 7, 7, 7, 7, 7, 7, 7, 7, 7, 7, 7, 7, 7, 7, 7, 7, 7, 7, 7, 8, 8, 8, 8, 8, 8, 8, 8, 8, 8, 8, 8, 8, 8, 8, 8, 8, 8, 8, 8, 8, 8, 8, 8, 8, 8, 8, 8, 8, 8, 8, 8, 8, 8, 8, 8, 8, 8, 8, 8, 8, 8, 8, 8, 8, 8, 8, 8, 8, 8, 8, 8, 8, 8, 8, 8, 8, 8, 8, 8, 8, 8, 8, 8, 8, 8, 8, 8, 8, 8, 8, 8, 8, 8, 8, 8, 8, 8, 8, 8, 8, 8, 8, 8, 8, 8, 8, 8, 8, 8, 8, 8, 8, 8, 8, 8, 8, 8, 8, 8, 8, 8, 8, 8, 8, 8, 8, 8, 8, 8, 8, 8, 8, 8, 8, 8, 8, 8, 8, 8, 8, 8, 8, 8, 8, 8, 8, 8]⟩ : ByteArray) (IntKind.u8.wrap (a0.fdiv (2 ^ 8)))))))) else M.none) else M.none) else (if 0 ≤ (IntKind.u8.wrap (a0)) then (if (IntKind.u8.wrap (a0)) < ((⟨#[0, 1, 2, 2, 3, 3, 3, 3, 4, 4, 4, 4, 4, 4, 4, 4, 5, 5, 5, 5, 5, 5, 5, 5, 5, 5, 5, 5, 5, 5, 5, 5, 6, 6, 6, 6, 6, 6, 6, 6, 6, 6, 6, 6, 6, 6, 6, 6, 6, 6, 6, 6, 6, 6, 6, 6, 6, 6, 6, 6, 6, 6, 6, 6, 7, 7, 7, 7, 7, 7, 7, 7, 7, 7, 7, 7, 7, 7, 7, 7, 7, 7, 7, 7, 7, 7, 7, 7, 7, 7, 7, 7, 7, 7, 7, 7, 7, 7, 7, 7, 7, 7, 7, 7, 7, 7, 7, 7, 7, 7, 7, 7, 7, 7, 7, 7, 7, 7, 7, 7, 7, 7, 7, 7, 7, 7, 7, 7, 8, 8, 8, 8, 8, 8, 8, 8, 8, 8, 8, 8, 8, 8, 8, 8, 8, 8, 8, 8, 8, 8, 8, 8, 8, 8, 8, 8, 8, 8, 8, 8, 8, 8, 8, 8, 8, 8, 8, 8, 8, 8, 8, 8, 8, 8, 8, 8, 8, 8, 8, 8, 8, 8, 8, 8, 8, 8, 8, 8, 8, 8, 8, 8, 8, 8, 8, 8, 8, 8, 8, 8, 8, 8, 8, 8, 8, 8, 8, 8, 8, 8, 8, 8, 8, 8, 8, 8, 8, 8, 8, 8, 8, 8, 8, 8, 8, 8, 8, 8, 8, 8, 8, 8, 8, 8, 8, 8, 8, 8, 8, 8, 8, 8, 8, 8, 8, 8, 8, 8, 8, 8, 8, 8, 8, 8, 8, 8]⟩ : ByteArray).size : Int) then (M.ret (IntKind.i64.wrap (0 + (IntKind.i64.wrap (byteAt (⟨#[0, 1, 2, 2, 3, 3, 3, 3, 4, 4, 4, 4, 4, 4, 4, 4, 5, 5, 5, 5, 5, 5, 5, 5, 5, 5, 5, 5, 5, 5, 5, 5, 6, 6, 6, 6, 6, 6, 6, 6, 6, 6, 6, 6, 6, 6, 6, 6, 6, 6, 6, 6, 6, 6, 6, 6, 6, 6, 6, 6, 6, 6, 6, 6, 7, 7, 7, 7, 7, 7, 7, 7, 7, 7, 7, 7, 7, 7, 7, 7, 7, 7, 7, 7, 7, 7, 7, 7, 7, 7, 7, 7, 7, 7, 7, 7, 7, 7, 7, 7, 7, 7, 7, 7, 7, 7, 7, 7, 7, 7, 7, 7, 7, 7, 7, 7, 7, 7, 7, 7, 7, 7, 7, 7, 7, 7, 7, 7, 8, 8, 8, 8, 8, 8, 8, 8, 8, 8, 8, 8, 8, 8, 8, 8, 8, 8, 8, 8, 8, 8, 8, 8, 8, 8, 8, 8, 8, 8, 8, 8, 8, 8, 8, 8, 8, 8, 8, 8, 8, 8, 8, 8, 8, 8, 8, 8, 8, 8, 8, 8, 8, 8, 8, 8, 8, 8, 8, 8, 8, 8, 8, 8, 8, 8, 8, 8, 8, 8, 8, 8, 8, 8, 8, 8, 8, 8, 8, 8, 8, 8, 8, 8, 8, 8, 8, 8, 8, 8, 8, 8, 8, 8, 8, 8, 8, 8, 8, 8, 8, 8, 8, 8, 8, 8, 8, 8, 8, 8, 8, 8, 8, 8, 8, 8, 8, 8, 8, 8, 8, 8, 8, 8, 8, 8, 8, 8]⟩ : ByteArray) (IntKind.u8.wrap (a0))))))) else M.none) else M.none))) := by kernel_rfl
/-! ### nat_Nat_Bits -/
noncomputable def nat_Nat_Bits.Γ : Ctx := ⟨tys, fun f => bif Nat.beq f 22 then some mbits_Len32.ent else (none), globs, eqs, flds⟩
def nat_Nat_Bits.A : Live := fun i => none
noncomputable def nat_Nat_Bits.f (a0 : List Int) : M Int := evFn nat_Nat_Bits.Γ nat_Nat_Bits.A Try.f19 (.agg (.lst (.int .u32))) (.int .i64) a0
noncomputable def nat_Nat_Bits.ent : FnE := .plain (.agg (.lst (.int .u32))) (.int .i64) false fun x => nat_Nat_Bits.f x
theorem nat_Nat_Bits.f_eq {a0 : List Int} : nat_Nat_Bits.f a0 =
    (if (a0.length : Int) = 0 then (M.ret 0) else (if 0 ≤ (IntKind.i64.wrap ((a0.length : Int) - 1)) then (if (IntKind.i64.wrap ((a0.length : Int) - 1)) < (a0.length : Int) then (M.bind (mbits_Len32.f (rdI a0 (IntKind.i64.wrap ((a0.length : Int) - 1)))) fun t1 => (M.ret (IntKind.i64.wrap ((IntKind.i64.wrap (32 * (IntKind.i64.wrap ((a0.length : Int) - 1)))) + t1)))) else M.none) else M.none)) := by kernel_rfl
/-! ### numerarylaw02_wakes -/
noncomputable def numerarylaw02_wakes.Γ : Ctx := ⟨tys, fun f => bif Nat.beq f 6 then some nat_Nat_Limbs.ent else (bif Nat.beq f 7 then some nat_Add.ent else (bif Nat.beq f 8 then some nat_Sub.ent else (bif Nat.beq f 9 then some nat_Cmp.ent else (bif Nat.beq f 17 then some nat_Of.ent else (bif Nat.beq f 18 then some nat_Nat_Small.ent else (bif Nat.beq f 19 then some nat_Nat_Bits.ent else (none))))))), globs, eqs, flds⟩
def numerarylaw02_wakes.A : Live := fun i => none
noncomputable def numerarylaw02_wakes.f (_ : Unit) : M Bool := evFn numerarylaw02_wakes.Γ numerarylaw02_wakes.A Try.f10 .nil .bool ()
noncomputable def numerarylaw02_wakes.ent : FnE := .plain .nil .bool false fun x => numerarylaw02_wakes.f ()
theorem numerarylaw02_wakes.f_eq : numerarylaw02_wakes.f () =
    (M.bind (nat_Of.f 4294967296) fun t1 => (M.bind (nat_Of.f 1) fun t2 => (M.bind (nat_Sub.f t1 t2) fun t3 => (M.bind (nat_Nat_Small.f t3.1) fun t4 => (M.bind (nat_Add.f t1 t1) fun t5 => (M.bind (nat_Nat_Limbs.f t5) fun t6 => (if t3.2 = true then (if t4.2 = true then (if t4.1 = 4294967295 then (if (t6.length : Int) = 2 then (if 0 ≤ 0 then (if 0 < (t6.length : Int) then (if (t6.getD ((0 : Int).toNat) 0) = 0 then (if 0 ≤ 1 then (if 1 < (t6.length : Int) then (if (t6.getD ((1 : Int).toNat) 0) = 2 then (M.bind (nat_Cmp.f t1 t3.1) fun t7 => (if t7 = 1 then (M.bind (nat_Nat_Bits.f t1) fun t8 => (M.ret (decide (t8 = 33)))) else (M.ret false))) else (M.ret false)) else M.none) else M.none) else (M.ret false)) else M.none) else M.none) else (M.ret false)) else (M.ret false)) else (M.ret false)) else (M.ret false)))))))) := by kernel_rfl
/-! ### numerarylaw02_NatKeeps -/
noncomputable def numerarylaw02_NatKeeps.Γ : Ctx := ⟨tys, fun f => bif Nat.beq f 4 then some numerarylaw02_few.ent else (bif Nat.beq f 5 then some nat_Made.ent else (bif Nat.beq f 6 then some nat_Nat_Limbs.ent else (bif Nat.beq f 7 then some nat_Add.ent else (bif Nat.beq f 8 then some nat_Sub.ent else (bif Nat.beq f 9 then some nat_Cmp.ent else (bif Nat.beq f 10 then some numerarylaw02_wakes.ent else (none))))))), globs, eqs, flds⟩
def numerarylaw02_NatKeeps.l0.live : List (Nat × LK) := [(0, .own true (.int .u32)), (2, .val (.int .u32)), (7, .box [(.lst (.int .u32))]), (8, .box [(.lst (.int .u32))]), (9, .own true (.int .u32)), (26, .val (.int .i64)), (27, .val (.int .i64))]
def numerarylaw02_NatKeeps.l1.live : List (Nat × LK) := [(2, .val (.int .u32)), (7, .box [(.lst (.int .u32))]), (8, .box [(.lst (.int .u32))]), (9, .own true (.int .u32)), (11, .own true (.int .u32)), (41, .val (.int .i64)), (42, .val (.int .i64))]
def numerarylaw02_NatKeeps.l2.live : List (Nat × LK) := [(9, .own true (.int .u32)), (13, .own true (.int .u32)), (74, .val (.int .i64)), (75, .val (.int .i64))]
def numerarylaw02_NatKeeps.A : Live := fun i => bif Nat.beq i 10 then some numerarylaw02_NatKeeps.l0.live else (bif Nat.beq i 22 then some numerarylaw02_NatKeeps.l1.live else (bif Nat.beq i 44 then some numerarylaw02_NatKeeps.l2.live else (none)))
noncomputable def numerarylaw02_NatKeeps.f (a0 : List Int) (a1 : List Int) (a2 : Int) : M Bool := evFn numerarylaw02_NatKeeps.Γ numerarylaw02_NatKeeps.A Try.f3 (.pair (.lst (.int .u32)) (.pair (.lst (.int .u32)) (.int .u32))) .bool (a0, a1, a2)
noncomputable def numerarylaw02_NatKeeps.ent : FnE := .plain (.pair (.lst (.int .u32)) (.pair (.lst (.int .u32)) (.int .u32))) .bool false fun x => numerarylaw02_NatKeeps.f x.1 x.2.1 x.2.2
noncomputable def numerarylaw02_NatKeeps.l0.c : Code × Kont Bool := focus numerarylaw02_NatKeeps.Γ numerarylaw02_NatKeeps.A (bodyOf Try.f3) (finQ numerarylaw02_NatKeeps.Γ Try.f3.results.toList .bool) [.r, .r, .r, .r, .l, .r, .l]
noncomputable def numerarylaw02_NatKeeps.l0 (x0 : List Int) (x2 : Int) (x7 : List Int) (x8 : List Int) (x9 : List Int) (x26 : Int) (x27 : Int) : M Bool := loopOf numerarylaw02_NatKeeps.Γ numerarylaw02_NatKeeps.A numerarylaw02_NatKeeps.l0.live numerarylaw02_NatKeeps.l0.c (x0, x2, x7, x8, x9, x26, x27)
noncomputable def numerarylaw02_NatKeeps.l1.c : Code × Kont Bool := focus numerarylaw02_NatKeeps.Γ numerarylaw02_NatKeeps.A (bodyOf Try.f3) (finQ numerarylaw02_NatKeeps.Γ Try.f3.results.toList .bool) [.r, .r, .r, .r, .r, .r, .l, .r, .l]
noncomputable def numerarylaw02_NatKeeps.l1 (x2 : Int) (x7 : List Int) (x8 : List Int) (x9 : List Int) (x11 : List Int) (x41 : Int) (x42 : Int) : M Bool := loopOf numerarylaw02_NatKeeps.Γ numerarylaw02_NatKeeps.A numerarylaw02_NatKeeps.l1.live numerarylaw02_NatKeeps.l1.c (x2, x7, x8, x9, x11, x41, x42)
noncomputable def numerarylaw02_NatKeeps.l2.c : Code × Kont Bool := focus numerarylaw02_NatKeeps.Γ numerarylaw02_NatKeeps.A (bodyOf Try.f3) (finQ numerarylaw02_NatKeeps.Γ Try.f3.results.toList .bool) [.r, .r, .r, .r, .r, .r, .r, .r, .r, .r, .r, .r, .l, .r, .l]
noncomputable def numerarylaw02_NatKeeps.l2 (x9 : List Int) (x13 : List Int) (x74 : Int) (x75 : Int) : M Bool := loopOf numerarylaw02_NatKeeps.Γ numerarylaw02_NatKeeps.A numerarylaw02_NatKeeps.l2.live numerarylaw02_NatKeeps.l2.c (x9, x13, x74, x75)
theorem numerarylaw02_NatKeeps.l0_eq {x0 : List Int} {x2 : Int} {x7 : List Int} {x8 : List Int} {x9 : List Int} {x26 : Int} {x27 : Int} :
    roundOf numerarylaw02_NatKeeps.Γ numerarylaw02_NatKeeps.A numerarylaw02_NatKeeps.l0.live numerarylaw02_NatKeeps.l0.c (loopOf numerarylaw02_NatKeeps.Γ numerarylaw02_NatKeeps.A numerarylaw02_NatKeeps.l0.live numerarylaw02_NatKeeps.l0.c) (x0, x2, x7, x8, x9, x26, x27) =
    (if x27 < x26 then (if 0 ≤ x27 then (if x27 < (x0.length : Int) then (if 0 ≤ x27 then (if x27 < (x0.length : Int) then (numerarylaw02_NatKeeps.l0 (x0.set x27.toNat (IntKind.u32.wrap ((BitVec.ofInt IntKind.u32.bits (x0.getD x27.toNat 0) ^^^ BitVec.ofInt IntKind.u32.bits x2).toNat))) x2 x7 x8 x9 x26 (IntKind.i64.wrap (x27 + 1))) else M.none) else M.none) else M.none) else M.none) else (M.bind (nat_Nat_Limbs.f x7) fun t1 => (numerarylaw02_NatKeeps.l1 x2 x7 x8 x9 t1 (t1.length : Int) 0))) := by kernel_rfl
theorem numerarylaw02_NatKeeps.l1_eq {x2 : Int} {x7 : List Int} {x8 : List Int} {x9 : List Int} {x11 : List Int} {x41 : Int} {x42 : Int} :
    roundOf numerarylaw02_NatKeeps.Γ numerarylaw02_NatKeeps.A numerarylaw02_NatKeeps.l1.live numerarylaw02_NatKeeps.l1.c (loopOf numerarylaw02_NatKeeps.Γ numerarylaw02_NatKeeps.A numerarylaw02_NatKeeps.l1.live numerarylaw02_NatKeeps.l1.c) (x2, x7, x8, x9, x11, x41, x42) =
    (if x42 < x41 then (if 0 ≤ x42 then (if x42 < (x11.length : Int) then (if 0 ≤ x42 then (if x42 < (x11.length : Int) then (numerarylaw02_NatKeeps.l1 x2 x7 x8 x9 (x11.set x42.toNat (IntKind.u32.wrap ((BitVec.ofInt IntKind.u32.bits (x11.getD x42.toNat 0) ^^^ BitVec.ofInt IntKind.u32.bits x2).toNat))) x41 (IntKind.i64.wrap (x42 + 1))) else M.none) else M.none) else M.none) else M.none) else (M.bind (nat_Add.f x7 x8) fun t1 => (M.bind (nat_Sub.f x7 x8) fun t2 => (M.bind (nat_Cmp.f x7 x8) fun t3 => (M.bind (nat_Nat_Limbs.f x7) fun t4 => (M.bind (numerarylaw02_wakes.f ()) fun t5 => (if (!t5) = true then (M.ret false) else (if (t4.length : Int) ≠ (x9.length : Int) then (M.ret false) else (numerarylaw02_NatKeeps.l2 x9 t4 (t4.length : Int) 0))))))))) := by kernel_rfl
theorem numerarylaw02_NatKeeps.l2_eq {x9 : List Int} {x13 : List Int} {x74 : Int} {x75 : Int} :
    roundOf numerarylaw02_NatKeeps.Γ numerarylaw02_NatKeeps.A numerarylaw02_NatKeeps.l2.live numerarylaw02_NatKeeps.l2.c (loopOf numerarylaw02_NatKeeps.Γ numerarylaw02_NatKeeps.A numerarylaw02_NatKeeps.l2.live numerarylaw02_NatKeeps.l2.c) (x9, x13, x74, x75) =
    (if x75 < x74 then (if 0 ≤ x75 then (if x75 < (x13.length : Int) then (if 0 ≤ x75 then (if x75 < (x9.length : Int) then (if (x13.getD x75.toNat 0) ≠ (x9.getD x75.toNat 0) then (M.ret false) else (numerarylaw02_NatKeeps.l2 x9 x13 x74 (IntKind.i64.wrap (x75 + 1)))) else M.none) else M.none) else M.none) else M.none) else (M.ret true)) := by kernel_rfl
theorem numerarylaw02_NatKeeps.f_eq {a0 : List Int} {a1 : List Int} {a2 : Int} : numerarylaw02_NatKeeps.f a0 a1 a2 =
    (M.bind (numerarylaw02_few.f a0) fun t1 => (if t1.length ≤ 1099511627776 then (M.bind (nat_Made.f t1) fun t2 => (M.bind (numerarylaw02_few.f a1) fun t3 => (M.bind (nat_Made.f t3) fun t4 => (M.bind (nat_Nat_Limbs.f t2) fun t5 => (numerarylaw02_NatKeeps.l0 t1 a2 t2 t4 t5 (t1.length : Int) 0))))) else M.none)) := by kernel_rfl
end Go.Proofs.Ythcmaijnhcmnmaa.F
