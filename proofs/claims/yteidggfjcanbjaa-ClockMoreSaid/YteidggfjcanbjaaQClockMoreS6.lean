/- Each operation does what the evaluator says, 1: numbers, bools, strings, parts. -/
import Derived.Test.YteidggfjcanbjaaQClockMoreS5
import Derived.Laws.Small
import Derived.Laws.Strings
import Derived.Laws.Cover3
import Derived.Laws.StructEq
namespace Go.Proofs.Yteidggfjcanbjaa.E
open Go Go.RowKit
set_option linter.unusedVariables false
set_option linter.unusedSimpArgs false

variable {P : Program} {X : Nat → Prop} {F : Root} {w0 : World} {n : Nat} {G : Gh} {st : St} {a : Act} {w : World} {o : Oper}

/-! ### What is known of types -/
def TI.ok (P : Program) (t : TypeId) : TI → Prop
  | .unk => True
  | .plain => ∃ d i, P.underlying t = some d ∧ (∀ fs, d ≠ .struct fs) ∧ (∀ k e, d ≠ .array k e) ∧ P.info? t = some i ∧ i.size = 1
  | .bool => P.underlying t = some .bool ∧ ∃ i, P.info? t = some i ∧ i.size = 1 ∧ i.zero = some (.bool false)
  | .str => P.underlying t = some .string ∧ ∃ i, P.info? t = some i ∧ i.size = 1 ∧ i.zero = some (.string ByteArray.empty)
  | .int k => P.underlying t = some (.int k) ∧ ∃ i, P.info? t = some i ∧ i.size = 1 ∧ i.zero = some (.int k 0)
  | .slice e ty size bytes => P.underlying t = some (.slice e) ∧ (∃ i, P.info? t = some i ∧ i.size = 1 ∧ i.zero = some (.slice none 0 0)) ∧
      ∃ i z, P.info? e = some i ∧ i.size = ty.n ∧ i.bytes ≤ 64 ∧ i.zero = some z ∧ ∀ w own, R w own ty ty.dflt z.cells.toList
  | .arr e ty size len => P.underlying t = some (.array len e) ∧ ∃ i, P.info? e = some i ∧ i.size = ty.n
  | .struct fields size zero => ∃ fs i z, P.underlying t = some (.struct fs) ∧ P.info? t = some i ∧ i.size = size ∧ i.zero = some (.agg z) ∧
      (∀ w own β m, All2 (AR w own β m) zero z.toList) ∧ (∀ c ∈ z.toList, c.oneCell' = true) ∧ z.size = size ∧ fs.toList.mapM (fun f => (P.info? f.type).map fun i => (f.offset, i.size)) = some fields ∧
      ∀ (k : Nat) (p : Nat × Nat), fields[k]? = some p → ∃ f fi, fs[k]? = some f ∧ f.offset = p.1 ∧ P.info? f.type = some fi ∧ fi.size = p.2 ∧ p.2 ≠ 0 ∧ p.1 + p.2 ≤ size

theorem run_info {t : TypeId} {i : TypeInfo} (h : P.info? t = some i) (w : World) : (typeInfo t).run P w = .ok i w := by simp [typeInfo, h]
theorem run_sizeOf {t : TypeId} {i : TypeInfo} (h : P.info? t = some i) (w : World) : (sizeOf t).run P w = .ok i.size w := by simp [sizeOf, run_info h]
theorem run_zero {t : TypeId} {i : TypeInfo} {z : Value} (h : P.info? t = some i) (hz : i.zero = some z) (w : World) : (zeroValue t).run P w = .ok z w := by simp [zeroValue, run_info h, hz]

theorem look_LR (E : EnvR X F w0 n G st a w) (x : Operand) : LR w (Own X G.β st.m) G st.m (st.look x) (a.eval x) := by
  refine at_LR E.mems ?_
  cases x with
  | tmp t => exact E.slots t
  | const v => exact ofValue_AR v
  | global g => rfl
  | func f => trivial

/-! ### Values that are put as they are -/
theorem put_ok {v : AV} {x : Value} (hr : (execOp a.eval o).run P w = .ok (.value x) w) (h : AR w (Own X G.β st.m) G.β st.m v x) : OpOK P X G st o a w (.put v) := ⟨x, w, hr, Grows.refl w, h⟩
theorem ok_move (E : EnvR X F w0 n G st a w) {x : Operand} (ho : o.op = .move x ∨ o.op = .assign x) : OpOK P X G st o a w (.put (st.look x).1) := by
  refine put_ok (x := a.eval x) ?_ (look_LR E x).1
  rcases ho with ho | ho <;> simp [execOp, ho]
theorem VR_int {own : Nat → Prop} {k : IntKind} {x : Int} {v : Value} (h : VR w own (.int k) x v) : v = .int k x := by
  have h1 := h.1; have h2 := h.2
  rw [cells_of_one h2] at h1
  simpa [R] using h1
theorem VR_bool {own : Nat → Prop} {x : Bool} {v : Value} (h : VR w own .bool x v) : v = .bool x := by
  have h1 := h.1; have h2 := h.2
  rw [cells_of_one h2] at h1
  simpa [R] using h1
theorem VR_str {own : Nat → Prop} {x : ByteArray} {v : Value} (h : VR w own .str x v) : v = .string x := by
  have h1 := h.1; have h2 := h.2
  rw [cells_of_one h2] at h1
  simpa [R] using h1
theorem VR_nil {own : Nat → Prop} {x : Unit} {v : Value} (h : VR w own .nil x v) : v = .slice none 0 0 := by
  have h1 := h.1; have h2 := h.2
  rw [cells_of_one h2] at h1
  simpa [R] using h1
theorem int_VR (w : World) (own : Nat → Prop) (k : IntKind) (x : Int) : VR w own (.int k) x (.int k x) := VR_cell (by simp [R]) (by simp) (by simp)
theorem bool_VR (w : World) (own : Nat → Prop) (x : Bool) : VR w own .bool x (.bool x) := VR_cell (by simp [R]) (by simp) (by simp)
theorem str_VR (w : World) (own : Nat → Prop) (x : ByteArray) : VR w own .str x (.string x) := VR_cell (by simp [R]) (by simp) (by simp)
theorem VR_lst {own : Nat → Prop} {t : Ty} {x : List t.D} {v : Value} (h : VR w own (.lst t) x v) : R w own (.lst t) x [v] := by
  have h1 := h.1; have h2 := h.2
  rwa [cells_of_one h2] at h1
/-- What is looked up, where it is a plain value. -/
theorem look_t (E : EnvR X F w0 n G st a w) {x : Operand} {ty : Ty} {y : ty.D} (h : (st.look x).1 = .t ty y) : VR w (Own X G.β st.m) ty y (a.eval x) := by
  have := (look_LR E x).1
  rw [h] at this; exact this
theorem look_int (E : EnvR X F w0 n G st a w) {x : Operand} {k : IntKind} {y : Int} (h : (st.look x).1 = .t (.int k) y) : a.eval x = .int k y := VR_int (look_t E h)
theorem ok_pick (E : EnvR X F w0 n G st a w) {c x y : Operand} (ho : o.op = .pick c x y) (Γ : Ctx) : OpOK P X G st o a w (evOp Γ o st.look) := by
  unfold evOp; rw [ho]; simp only
  split
  · rename_i h
    have hc := VR_bool (look_t E h)
    refine put_ok (x := a.eval x) ?_ (look_LR E x).1
    simp [execOp, ho, hc, asBool]
  · rename_i h
    have hc := VR_bool (look_t E h)
    refine put_ok (x := a.eval y) ?_ (look_LR E y).1
    simp [execOp, ho, hc, asBool]
  · trivial
/-! ### Arithmetic -/
theorem bp_AR {own : Nat → Prop} {β : Nat → Value} {m : Nat → MB} {p : Prop} (d : Decidable p) {b : Bool} (h : b = true ↔ p) : AR w own β m (.bp p d) (.bool b) := by
  simp only [AR]
  congr 1
  cases b
  · have : ¬ p := fun hp => by have := h.2 hp; cases this
    simp [this]
  · have := h.1 rfl
    simp [this]
theorem ok_bin_put (E : EnvR X F w0 n G st a w) {op : BinOp} {T U : TypeId} {x y : Operand} (ho : o.op = .binOp op T x y U) {v : AV} {r : Value}
    (hg : (eqGuard op T x y (a.eval x) (a.eval y)).run P w = .ok () w) (hr : (binOp op T (a.eval x) (a.eval y)).run P w = .ok r w) (h : AR w (Own X G.β st.m) G.β st.m v r) : OpOK P X G st o a w (.put v) := by
  refine put_ok (x := r) ?_ h
  simp [execOp, ho, hg, hr]
theorem guard_int (op : BinOp) (T : TypeId) (x y : Operand) (j k : IntKind) (b c : Int) (w : World) : (eqGuard op T x y (.int j b) (.int k c)).run P w = .ok () w := by
  unfold eqGuard; cases op <;> simp
theorem ok_binInt (E : EnvR X F w0 n G st a w) {op : BinOp} {T U : TypeId} {x y : Operand} (ho : o.op = .binOp op T x y U) {k : IntKind} {b c : Int} (hx : a.eval x = .int k b) (hy : a.eval y = .int k c) (hs : isShift op = false) :
    OpOK P X G st o a w (binInt op k b c) := by
  have hg : (eqGuard op T x y (a.eval x) (a.eval y)).run P w = .ok () w := by rw [hx, hy]; exact guard_int _ _ _ _ _ _ _ _ _
  cases op <;> simp only [binInt, OpOK, isShift] at hs ⊢
  case add => exact ok_bin_put E ho hg (by rw [hx, hy]; simp [binOp, Op.intArith]) (int_VR _ _ _ _)
  case sub => exact ok_bin_put E ho hg (by rw [hx, hy]; simp [binOp, Op.intArith]) (int_VR _ _ _ _)
  case mul => exact ok_bin_put E ho hg (by rw [hx, hy]; simp [binOp, Op.intArith]) (int_VR _ _ _ _)
  case quo => intro h0; exact ok_bin_put E ho hg (by rw [hx, hy]; simp [binOp, Op.intDiv, h0]) (int_VR _ _ _ _)
  case rem => intro h0; exact ok_bin_put E ho hg (by rw [hx, hy]; simp [binOp, Op.intDiv, h0]) (int_VR _ _ _ _)
  case and => exact ok_bin_put E ho hg (by rw [hx, hy]; simp [binOp, Op.intBits]) (int_VR _ _ _ _)
  case or => exact ok_bin_put E ho hg (by rw [hx, hy]; simp [binOp, Op.intBits]) (int_VR _ _ _ _)
  case xor => exact ok_bin_put E ho hg (by rw [hx, hy]; simp [binOp, Op.intBits]) (int_VR _ _ _ _)
  case andNot => exact ok_bin_put E ho hg (by rw [hx, hy]; simp [binOp, Op.intBits]) (int_VR _ _ _ _)
  case eql => exact ok_bin_put E ho hg (by rw [hx, hy]; simp [binOp, Op.intCmp]; rfl) (bp_AR _ (by simp))
  case neq => exact ok_bin_put E ho hg (by rw [hx, hy]; simp [binOp, Op.intCmp]; rfl) (bp_AR _ (by simp))
  case lss => exact ok_bin_put E ho hg (by rw [hx, hy]; simp [binOp, Op.intCmp]; rfl) (bp_AR _ (by simp))
  case leq => exact ok_bin_put E ho hg (by rw [hx, hy]; simp [binOp, Op.intCmp]; rfl) (bp_AR _ (by simp))
  case gtr => exact ok_bin_put E ho hg (by rw [hx, hy]; simp [binOp, Op.intCmp]; rfl) (bp_AR _ (by simp))
  case geq => exact ok_bin_put E ho hg (by rw [hx, hy]; simp [binOp, Op.intCmp]; rfl) (bp_AR _ (by simp))
  all_goals cases hs
theorem ok_shift (E : EnvR X F w0 n G st a w) {op : BinOp} {T U : TypeId} {x y : Operand} (ho : o.op = .binOp op T x y U) {k j : IntKind} {b c : Int} (hx : a.eval x = .int k b) (hy : a.eval y = .int j c) :
    OpOK P X G st o a w (shiftInt op k b c) := by
  have hg : (eqGuard op T x y (a.eval x) (a.eval y)).run P w = .ok () w := by rw [hx, hy]; exact guard_int _ _ _ _ _ _ _ _ _
  cases op <;> simp only [shiftInt, OpOK]
  case shl =>
    intro h0
    have : ¬ c < 0 := by omega
    exact ok_bin_put E ho hg (by rw [hx, hy]; simp [binOp, Op.shift, this]) (int_VR _ _ _ _)
  case shr =>
    intro h0
    have : ¬ c < 0 := by omega
    exact ok_bin_put E ho hg (by rw [hx, hy]; simp [binOp, Op.shift, this]) (int_VR _ _ _ _)
theorem LR_bool {own : Nat → Prop} {G : Gh} {m : Nat → MB} {v : AV × MB} {x : Value} (h : LR w own G m v x) : (∀ b, v.1 = .t .bool b → x = .bool b) ∧ (∀ p d, v.1 = .bp p d → x = .bool (@decide p d)) := by
  refine ⟨fun b hb => ?_, fun p d hb => ?_⟩
  · have := h.1; rw [hb] at this; exact VR_bool this
  · have := h.1; rw [hb] at this; exact this
theorem guard_bool (op : BinOp) (T : TypeId) (x y : Operand) (b c : Bool) (w : World) : (eqGuard op T x y (.bool b) (.bool c)).run P w = .ok () w := by
  unfold eqGuard; cases op <;> simp
theorem ok_bool (E : EnvR X F w0 n G st a w) {op : BinOp} {T U : TypeId} {x y : Operand} (ho : o.op = .binOp op T x y U) {b c : Bool} (hx : a.eval x = .bool b) (hy : a.eval y = .bool c) {ti : TI} (ht : ti.ok P T) :
    OpOK P X G st o a w (evBool op ti b c) := by
  have hg : (eqGuard op T x y (a.eval x) (a.eval y)).run P w = .ok () w := by rw [hx, hy]; exact guard_bool _ _ _ _ _ _ _
  unfold evBool
  split
  · refine ok_bin_put E ho hg (r := .bool (b == c)) (by rw [hx, hy]; exact run_eql_bool w T b c ht.1) (bp_AR _ (by simp))
  · refine ok_bin_put E ho hg (r := .bool (!(b == c))) (by rw [hx, hy]; exact run_neq_bool w T b c ht.1) (bp_AR _ (by simp))
  · trivial
theorem str_inj {x y : ByteArray} : (x.toList == y.toList) = true ↔ x = y := by
  rw [beq_iff_eq]
  constructor
  · intro h
    rw [ByteArray.toList_eq, ByteArray.toList_eq] at h
    cases x; cases y
    congr 1
    exact Array.toList_inj.1 h
  · intro h; rw [h]
theorem guard_str (op : BinOp) (T : TypeId) (x y : Operand) (b c : ByteArray) (w : World) : (eqGuard op T x y (.string b) (.string c)).run P w = .ok () w := by
  unfold eqGuard; cases op <;> simp
theorem ok_nilq (E : EnvR X F w0 n G st a w) {T U e : TypeId} {x y : Operand} (ho : o.op = .binOp .eql T x y U) {t : Ty} {l : List t.D} (hx : VR w (Own X G.β st.m) (.lst t) l (a.eval x)) (hy : a.eval y = .slice none 0 0) (ht : P.underlying T = some (.slice e)) :
    OpOK P X G st o a w (.put (.nq (l = []))) := by
  have h1 := VR_lst hx
  simp only [R] at h1
  obtain ⟨ao, cap, hv, hc, hl⟩ := h1
  have hv : a.eval x = .slice ao (List.length l) cap := by simpa using hv
  have hg : (eqGuard .eql T x y (a.eval x) (a.eval y)).run P w = .ok () w := by rw [hv, hy]; unfold eqGuard; simp
  refine ok_bin_put E ho hg (r := .bool ao.isNone) ?_ ?_
  · rw [hv, hy]
    simp [binOp, run_equal_slice_nil w T e ao _ cap ht]
  · refine ⟨_, rfl, fun hn => ?_⟩
    rcases hl with hl | ⟨a', _, rfl, _⟩
    · exact hl
    · simp at hn
theorem ok_un (E : EnvR X F w0 n G st a w) {op : UnOp} {T : TypeId} {x : Operand} (ho : o.op = .unOp op T x) (Γ : Ctx) : OpOK P X G st o a w (evOp Γ o st.look) := by
  unfold evOp; rw [ho]; simp only
  unfold evUn
  have L := look_LR E x
  split
  · rename_i k m h
    have hx := look_int E h
    exact put_ok (x := .int k (k.wrap (0 - m))) (by simp [execOp, ho, hx, Op.unary, Op.intArith]) (int_VR _ _ _ _)
  · rename_i k m h
    have hx := look_int E h
    refine put_ok (x := .int k (k.wrap (BitVec.ofInt k.bits (if k.signed then -1 else k.max) ^^^ BitVec.ofInt k.bits m).toNat)) (by simp [execOp, ho, hx, Op.unary, Op.intBits]) (int_VR _ _ _ _)
  · rename_i b h
    have hx := (LR_bool L).1 b h
    exact put_ok (x := .bool (!b)) (by simp [execOp, ho, hx, Op.unary]) (bool_VR _ _ _)
  · rename_i p d h
    have hx := (LR_bool L).2 p d h
    exact put_ok (x := .bool (!(@decide p d))) (by simp [execOp, ho, hx, Op.unary]) (bp_AR _ (by simp))
  · trivial
/-! ### Parts of answers -/
theorem tupNth_AR {own : Nat → Prop} {β : Nat → Value} {m : Nat → MB} : ∀ {ty : Ty} {x : ty.D} {vs : List Value} {i : Nat} {v : Value}, TupR w own ty x vs → vs[i]? = some v → AR w own β m (tupNth ty x i) v
  | .pair a b, x, vs, 0, v, h, hv => by
    simp only [TupR] at h; obtain ⟨u, r, rfl, h1, _⟩ := h
    simp at hv; subst hv; exact h1
  | .pair a b, x, vs, i + 1, v, h, hv => by
    simp only [TupR] at h; obtain ⟨u, r, rfl, _, h2⟩ := h
    simp only [tupNth]
    exact tupNth_AR h2 (by simpa using hv)
  | .nil, x, vs, i, v, h, hv => by simp only [TupR] at h; subst h; simp at hv
  | .int _, x, vs, i, v, h, hv => by simp only [TupR] at h; obtain ⟨u, rfl, h⟩ := h; cases i <;> simp at hv; subst hv; exact h
  | .bool, x, vs, i, v, h, hv => by simp only [TupR] at h; obtain ⟨u, rfl, h⟩ := h; cases i <;> simp at hv; subst hv; exact h
  | .str, x, vs, i, v, h, hv => by simp only [TupR] at h; obtain ⟨u, rfl, h⟩ := h; cases i <;> simp at hv; subst hv; exact h
  | .any, x, vs, i, v, h, hv => by simp only [TupR] at h; obtain ⟨u, rfl, h⟩ := h; cases i <;> simp at hv; subst hv; exact h
  | .lst _, x, vs, i, v, h, hv => by simp only [TupR] at h; obtain ⟨u, rfl, h⟩ := h; cases i <;> simp at hv; subst hv; exact h
  | .agg _, x, vs, i, v, h, hv => by simp only [TupR] at h; obtain ⟨u, rfl, h⟩ := h; cases i <;> simp at hv; subst hv; exact h
theorem TupR_len {own : Nat → Prop} : ∀ {ty : Ty} {x : ty.D} {vs : List Value}, TupR w own ty x vs → vs.length = tupLen ty
  | .pair a b, _, _, h => by simp only [TupR] at h; obtain ⟨u, r, rfl, _, h⟩ := h; simp [tupLen, TupR_len h]
  | .nil, _, _, h => by simp only [TupR] at h; subst h; rfl
  | .int _, _, _, h => by simp only [TupR] at h; obtain ⟨u, rfl, h⟩ := h; rfl
  | .bool, _, _, h => by simp only [TupR] at h; obtain ⟨u, rfl, h⟩ := h; rfl
  | .str, _, _, h => by simp only [TupR] at h; obtain ⟨u, rfl, h⟩ := h; rfl
  | .any, _, _, h => by simp only [TupR] at h; obtain ⟨u, rfl, h⟩ := h; rfl
  | .lst _, _, _, h => by simp only [TupR] at h; obtain ⟨u, rfl, h⟩ := h; rfl
  | .agg _, _, _, h => by simp only [TupR] at h; obtain ⟨u, rfl, h⟩ := h; rfl
end Go.Proofs.Yteidggfjcanbjaa.E
