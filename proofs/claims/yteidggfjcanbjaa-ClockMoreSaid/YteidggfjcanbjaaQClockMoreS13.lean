/- Each operation does what the evaluator says, 8: len, max, min, conversions. -/
import Derived.Test.YteidggfjcanbjaaQClockMoreS12
import Derived.Laws.BytesString
import Derived.Laws.BytesArg
import Derived.Laws.IdiomStrings
namespace Go.Proofs.Yteidggfjcanbjaa.E
open Go Go.RowKit
set_option linter.unusedVariables false
set_option linter.unusedSimpArgs false

variable {P : Program} {X : Nat → Prop} {F : Root} {w0 : World} {n : Nat} {G : Gh} {st : St} {a : Act} {w : World} {o : Oper}

/-! ### len, max, min -/
theorem run_len_row {t e : TypeId} (ht : P.underlying t = some (.slice e)) (ty : TypeId) (b : Option Addr) (k c : Nat) (w : World) : (Builtin.len_ #[t] ty #[.slice b k c]).run P w = .ok (.int .i64 k) w := by
  simp [Builtin.len_, run_underlying ht, goInt]
theorem run_len_str {t : TypeId} (ht : P.underlying t = some .string) (ty : TypeId) (s : ByteArray) (w : World) : (Builtin.len_ #[t] ty #[.string s]).run P w = .ok (.int .i64 s.size) w := by
  simp [Builtin.len_, run_underlying ht, goInt]
theorem ok_builtin {b : Builtin} {c : Call} (ho : o.op = .call c) (hc : c.callee = .builtin b) {s : Sem Value} (hb : ∀ cs, builtin b c.argTypes o.type cs (c.args.map a.eval) = (do pure (.value (← s)))) {v : Value} {w' : World}
    (h : s.run P w = .ok v w') : (execOp a.eval o).run P w = .ok (.value v) w' := by
  simp [execOp, ho, resolve, hc, invoke, hb, h]
theorem args_list {c : Call} {l : List Operand} (h : c.args.toList = l) : c.args.map a.eval = (l.map a.eval).toArray := by
  subst h; apply Array.ext'; simp
theorem types_list {c : Call} {l : List TypeId} (h : c.argTypes.toList = l) : c.argTypes = l.toArray := by
  subst h; apply Array.ext'; simp
theorem ok_len (E : EnvR X F w0 n G st a w) {c : Call} (ho : o.op = .call c) (hc : c.callee = .builtin .len) {x : Operand} (hx : c.args.toList = [x]) {t : TypeId} (ht : c.argTypes.toList = [t]) {v : Value}
    (h : (Builtin.len_ #[t] o.type #[a.eval x]).run P w = .ok v w) {r : AV} (hr : AR w (Own X G.β st.m) G.β st.m r v) : OpOK P X G st o a w (.put r) := by
  refine put_ok (ok_builtin ho hc (s := Builtin.len_ #[t] o.type #[a.eval x]) (fun cs => ?_) h) hr
  rw [args_list hx, types_list ht]; rfl
theorem foldI_max {k : IntKind} (w : World) : ∀ {l : List Operand} {st : Look} {x y : Int} (hl : ∀ z ∈ l, ∀ j i, (st z).1 = .t (.int j) i → a.eval z = .int j i), foldI mxI k x (l.map fun z => (st z).1) = some y →
    (List.foldlM Builtin.max2 (.int k x) (l.map a.eval)).run P w = .ok (.int k y) w
  | [], st, x, y, _, h => by simp [foldI] at h; subst h; simp
  | z :: l, st, x, y, hl, h => by
    simp only [List.map_cons] at h
    unfold foldI at h
    split at h
    · rename_i heq; cases heq
    · rename_i x' j i r heq
      cases hd : decide (j = k) <;> rw [hd] at h
      · cases h
      · obtain rfl := of_decide_eq_true hd
        simp only [List.cons.injEq] at heq
        obtain ⟨h1, h2⟩ := heq
        rw [← h2] at h
        have hz := hl z (by simp) _ _ h1
        have := foldI_max w (st := st) (fun z' hz' => hl z' (by simp [hz'])) h
        simp only [List.map_cons, hz]
        simpa [Builtin.max2, mxI] using this
    · cases h
theorem foldI_min {k : IntKind} (w : World) : ∀ {l : List Operand} {st : Look} {x y : Int} (hl : ∀ z ∈ l, ∀ j i, (st z).1 = .t (.int j) i → a.eval z = .int j i), foldI mnI k x (l.map fun z => (st z).1) = some y →
    (List.foldlM Builtin.min2 (.int k x) (l.map a.eval)).run P w = .ok (.int k y) w
  | [], st, x, y, _, h => by simp [foldI] at h; subst h; simp
  | z :: l, st, x, y, hl, h => by
    simp only [List.map_cons] at h
    unfold foldI at h
    split at h
    · rename_i heq; cases heq
    · rename_i x' j i r heq
      cases hd : decide (j = k) <;> rw [hd] at h
      · cases h
      · obtain rfl := of_decide_eq_true hd
        simp only [List.cons.injEq] at heq
        obtain ⟨h1, h2⟩ := heq
        rw [← h2] at h
        have hz := hl z (by simp) _ _ h1
        have := foldI_min w (st := st) (fun z' hz' => hl z' (by simp [hz'])) h
        simp only [List.map_cons, hz]
        simpa [Builtin.min2, mnI] using this
    · cases h

/-! ### Conversions -/
theorem u8_cells {own : Nat → Prop} : ∀ {l : List Int} {css : List (List Value)}, All2 (R w own (.int .u8)) l css → css.flatten = l.map (Value.int .u8)
  | [], [], _ => rfl
  | x :: l, c :: css, ⟨h, r⟩ => by
    simp only [R] at h
    simp [h, u8_cells r]
theorem run_bytes_str {S T e : TypeId} (hs : P.underlying S = some (.slice e)) (hd : P.underlying T = some .string) (he : P.underlying e = some (.int .u8)) {own : Nat → Prop} {l : List Int} {v : Value} (h : R w own (.lst (.int .u8)) l [v]) :
    (convert S T v).run P w = .ok (.string (strOf l)) w := by
  simp only [R] at h
  obtain ⟨ao, cap, hv, hc, hl⟩ := h
  have hv : v = .slice ao (List.length l) cap := by simpa using hv
  subst hv
  rcases hl with rfl | ⟨ad, css, rfl, _, hr, hcell⟩
  · cases ao with
    | none => rw [run_convert_bytes_nil w S e hs he _ _ T hd]; rfl
    | some ad =>
      have hl := run_loadCells_list (P := P) w ad (([] : List Int).map (Value.int .u8)) (fun j v hj => by simp at hj)
      rw [run_convert_bytes_string w S T e _ _ cap hs he hd, run_bytesToString w ad _ cap [] (by simpa using hl)]
      rfl
  · have hl := run_loadCells_list (P := P) w ad (l.map (Value.int .u8)) (fun j v hj => hcell j v (by rw [u8_cells (w := w) (own := own) (by simpa only [R] using hr)]; exact hj))
    rw [run_convert_bytes_string w S T e _ _ cap hs he hd, run_bytesToString w ad _ cap l (by simpa using hl), foldl_push_bytes]
    congr 2
    simp [strOf]
theorem ok_convert_run {S T : TypeId} {x : Operand} (ho : o.op = .convert S T x) {v : Value} {w' : World} (h : (convert S T (a.eval x)).run P w = .ok v w') : (execOp a.eval o).run P w = .ok (.value v) w' := by
  simp [execOp, ho, h]
theorem bytesOf_len (s : ByteArray) : List.length (bytesOf s) = s.size := by
  unfold bytesOf
  rw [List.length_map]; rfl
theorem ok_convert (E : EnvR X F w0 n G st a w) {S T : TypeId} {x : Operand} (ho : o.op = .convert S T x) {Γ : Ctx} (ht : ∀ T, (Γ.ty T).ok P T) : OpOK P X G st o a w (evOp Γ o st.look) := by
  unfold evOp; rw [ho]; simp only
  have hS := ht S
  have hT := ht T
  split
  · rename_i mb0 j k k' i h1 h2 h3
    obtain ⟨i, rfl⟩ : ∃ i' : Int, i' = i := ⟨i, rfl⟩
    rw [h1] at hS; rw [h2] at hT
    have hx := look_int E h3
    refine put_ok (x := .int k (k.wrap i)) (ok_convert_run ho ?_) (int_VR _ _ _ _)
    rw [hx]
    simp [convert, run_underlying hS.1, run_underlying hT.1, Conv.intToInt]
  · rename_i mb0 s h1 h2 h3
    obtain ⟨s, rfl⟩ : ∃ s' : ByteArray, s' = s := ⟨s, rfl⟩
    rw [h1] at hS; rw [h2] at hT
    have hx := VR_str (look_t E h3)
    refine put_ok (x := .string s) (ok_convert_run ho ?_) (str_VR _ _ _)
    rw [hx]
    simp [convert, run_underlying hS.1, run_underlying hT.1]
  · rename_i v m e ty size bytes h1 h2
    rw [h1] at hS; rw [h2] at hT
    split
    · rename_i l he hl
      have hE := ht e
      rw [he] at hE
      obtain ⟨E1, hsub, hfree⟩ := E.kill (rowsOf [(st.look x).1])
      have hv := VR_lst (asOne_VR E.mems (look_LR E x) hl (fun g h => Own_kill hsub h) hfree)
      exact put_ok (x := .string (strOf l)) (ok_convert_run ho (run_bytes_str hS.1 hT.1 hE.1 hv)) (str_VR _ _ _)
    · trivial
  · rename_i mb0 e ty size bytes s h1 h2 h3
    obtain ⟨s, rfl⟩ : ∃ s' : ByteArray, s' = s := ⟨s, rfl⟩
    rw [h1] at hS; rw [h2] at hT
    split
    · rename_i he
      have hE := ht e
      rw [he] at hE
      have hx := VR_str (look_t E h3)
      refine ⟨_, _, ok_convert_run ho (by rw [hx]; exact run_bytes_of_string w S T e s hS.1 hT.1 hE.1), (Grows.drew w).trans (Grows.alloc _ _), ?_⟩
      show VR _ _ (.lst (.int .u8)) _ _
      refine VR_cell (ty := .lst (.int .u8)) ?_ (by simp) (by simp)
      simp only [R]
      refine ⟨some ⟨w.heap.size, 0, none⟩, grownCap w s.size 0 e, by rw [bytesOf_len], by rw [bytesOf_len]; exact grownCap_ge w s.size 0 e, .inr ⟨⟨w.heap.size, 0, none⟩, (bytesOf s).map fun b => [Value.int .u8 b], rfl, ?_, ?_, fun j c hj => ?_⟩⟩
      · rintro (h | ⟨d, h⟩)
        · exact absurd (Nat.lt_of_lt_of_le (E.xlt _ h) E.grown) (Nat.lt_irrefl _)
        · exact absurd (blk_lt (E.mems d) h) (Nat.lt_irrefl _)
      · have : ∀ l : List Int, All2 (R ((w.drew.alloc (.cells (bytesRow s (grownCap w s.size 0 e)) e ((bytesRow s (grownCap w s.size 0 e)).size, (bytesRow s (grownCap w s.size 0 e)).size + 1)))) (Own X G.β st.m) (.int .u8)) l (l.map fun b => [Value.int .u8 b]) := by
          intro l
          induction l with
          | nil => trivial
          | cons y l ih => exact ⟨by simp [R], ih⟩
        exact this _
      · rw [add_at, Nat.zero_add]
        have h0 := World.cell?_alloc_mark w.drew (bytesRow s (grownCap w s.size 0 e)) e ((bytesRow s (grownCap w s.size 0 e)).size, (bytesRow s (grownCap w s.size 0 e)).size + 1) j
        refine Eq.trans h0 ?_
        have hfl : ∀ l : List Int, (l.map fun b => [Value.int .u8 b]).flatten = l.map (Value.int .u8) := by
          intro l; induction l with
          | nil => rfl
          | cons y l ih => simp [ih]
        rw [hfl] at hj
        have hjl : j < s.data.toList.length := by
          have := (List.getElem?_eq_some_iff.1 hj).1
          simpa [bytesOf] using this
        rw [← Array.getElem?_toList]
        simp only [bytesRow, Array.toList_append, Array.toList_map]
        rw [List.getElem?_append_left (by simpa using hjl)]
        simp only [bytesOf, List.map_map] at hj
        rw [← hj]
        rfl
    · trivial
  · trivial
end Go.Proofs.Yteidggfjcanbjaa.E
