/- Each operation does what the evaluator says, 2: what two values have to do with one another; texts; parts of answers. -/
import Derived.Test.YteidggfjcanbjaaQClockMoreS6
namespace Go.Proofs.Yteidggfjcanbjaa.E
open Go Go.RowKit
set_option linter.unusedVariables false
set_option linter.unusedSimpArgs false

variable {P : Program} {X : Nat → Prop} {F : Root} {w0 : World} {n : Nat} {G : Gh} {st : St} {a : Act} {w : World} {o : Oper}

def EqOK (P : Program) (t : TypeId) (ty : Ty) : Prop := P.eqGuardType P.depth t = false ∧ ∀ (w : World) (own : Nat → Prop) (x y : ty.D) (cs ds : Array Value), R w own ty x cs.toList → R w own ty y ds.toList →
  (Op.equalIn 10000 t (.agg cs) (.agg ds)).run P w = .ok (@decide (eqP ty x y) (eqD ty x y)) w
theorem ok_str (E : EnvR X F w0 n G st a w) {op : BinOp} {T U : TypeId} {x y : Operand} (ho : o.op = .binOp op T x y U) {b c : ByteArray} (hx : a.eval x = .string b) (hy : a.eval y = .string c) :
    OpOK P X G st o a w (evStr op b c) := by
  have hg : (eqGuard op T x y (a.eval x) (a.eval y)).run P w = .ok () w := by rw [hx, hy]; exact guard_str _ _ _ _ _ _ _
  unfold evStr
  split
  · exact ok_bin_put E ho hg (r := .bool (b.toList == c.toList)) (by rw [hx, hy]; simp [binOp, Op.stringOp]) (bp_AR _ str_inj)
  · refine ok_bin_put E ho hg (r := .bool (!(b.toList == c.toList))) (by rw [hx, hy]; simp [binOp, Op.stringOp]) (bp_AR _ ?_)
    rw [← str_inj]; simp
  · intro h0
    refine ok_bin_put E ho hg (r := .string (b ++ c)) ?_ (str_VR _ _ _)
    rw [hx, hy]
    have : ¬ (((b.size + c.size : Nat) : Int) > IntKind.i64.max) := by simp [IntKind.max, IntKind.signed, IntKind.bits]; omega
    simp only [binOp, Op.stringOp]
    rw [if_neg this]; rfl
  · trivial
theorem VR_agg {own : Nat → Prop} {t : Ty} {x : t.D} {v : Value} (h : VR w own (.agg t) x v) : ∃ cs : Array Value, v = .agg cs ∧ R w own t x cs.toList := by
  obtain ⟨h1, cs, rfl⟩ := h
  exact ⟨cs, rfl, by simpa [Value.cells, R] using h1⟩
theorem ok_bin (E : EnvR X F w0 n G st a w) {op : BinOp} {T U : TypeId} {x y : Operand} (ho : o.op = .binOp op T x y U) {Γ : Ctx} (ht : (Γ.ty T).ok P T) (he : ∀ ty, Γ.eq T = some ty → EqOK P T ty) :
    OpOK P X G st o a w (evOp Γ o st.look) := by
  unfold evOp; rw [ho]; simp only
  unfold evBin
  have Lx := look_LR E x
  have Ly := look_LR E y
  split
  · rename_i j b k c h1 h2
    have hx := look_int E h1
    have hy := look_int E h2
    split
    · exact ok_shift E ho hx hy
    · rename_i hs
      cases hjk : decide (j = k)
      · trivial
      · obtain rfl := of_decide_eq_true hjk
        exact ok_binInt E ho hx hy hs
  · rename_i t l u h1 h2
    split
    · rename_i e ty size bytes hti
      rw [hti] at ht
      exact ok_nilq E ho (look_t E h1) (VR_nil (look_t E h2)) ht.1
    · trivial
  · rename_i b c h1 h2
    exact ok_bool E ho ((LR_bool Lx).1 b h1) ((LR_bool Ly).1 c h2) ht
  · rename_i p d c h1 h2
    exact ok_bool E ho ((LR_bool Lx).2 p d h1) ((LR_bool Ly).1 c h2) ht
  · rename_i b p d h1 h2
    exact ok_bool E ho ((LR_bool Lx).1 b h1) ((LR_bool Ly).2 p d h2) ht
  · rename_i p d q e h1 h2
    exact ok_bool E ho ((LR_bool Lx).2 p d h1) ((LR_bool Ly).2 q e h2) ht
  · rename_i b c h1 h2
    exact ok_str E ho (VR_str (look_t E h1)) (VR_str (look_t E h2))
  · rename_i t1 x1 t2 y1 h1 h2
    split
    · rename_i e hee
      split
      · rename_i x2 y2 e1 e2
        obtain ⟨hm, heq⟩ := he e hee
        obtain ⟨cs, hx, hr⟩ := VR_agg (look_t E h1)
        obtain ⟨ds, hy, hs⟩ := VR_agg (look_t E h2)
        have hg : (eqGuard op T x y (a.eval x) (a.eval y)).run P w = .ok () w := by rw [hx, hy]; exact run_eqGuard_agg w _ _ _ _ _ _ hm
        have hq := heq w _ x2 y2 cs ds (coD_R e1 hr) (coD_R e2 hs)
        split
        · refine ok_bin_put E ho hg (r := .bool (@decide (eqP e x2 y2) (eqD e x2 y2))) ?_ rfl
          rw [hx, hy, run_eql_struct, hq]; rfl
        · refine ok_bin_put E ho hg (r := .bool (!(@decide (eqP e x2 y2) (eqD e x2 y2)))) ?_ ?_
          · rw [hx, hy, run_neq_struct, hq]; rfl
          · refine bp_AR _ ?_
            by_cases hh : eqP e x2 y2 <;> simp [hh]
        · trivial
      · trivial
    · trivial
  · trivial
theorem ok_extract (E : EnvR X F w0 n G st a w) {x : Operand} {i : Nat} (ho : o.op = .extract x i) (Γ : Ctx) : OpOK P X G st o a w (evOp Γ o st.look) := by
  unfold evOp; rw [ho]; simp only
  have L := look_LR E x
  split
  · rename_i ty y h
    have h1 := L.1
    rw [h] at h1
    obtain ⟨vs, hv, ht⟩ := h1
    split
    · rename_i hi
      have hi' : i < vs.length := by rw [TupR_len ht]; simpa [Nat.blt_eq] using hi
      have hv' : vs[i]? = some vs[i] := List.getElem?_eq_getElem hi'
      refine put_ok (x := vs[i]) ?_ (tupNth_AR ht hv')
      simp [execOp, ho, hv, Instr.extract, hi']
    · trivial
  · trivial
end Go.Proofs.Yteidggfjcanbjaa.E
