/- Each operation does what the evaluator says, 4: stores, new variables and rows. -/
import Derived.Test.YteidggfjcanbjaaQClockMoreS8
namespace Go.Proofs.Yteidggfjcanbjaa.E
open Go Go.RowKit
set_option linter.unusedVariables false
set_option linter.unusedSimpArgs false

variable {P : Program} {X : Nat → Prop} {F : Root} {w0 : World} {n : Nat} {G : Gh} {st : St} {a : Act} {w : World} {o : Oper}

theorem add_at (g p q : Nat) : Addr.add ⟨g, p, none⟩ q = ⟨g, p + q, none⟩ := by unfold Addr.add; split <;> simp_all
theorem TI.size {T : TypeId} {ti : TI} (ht : ti.ok P T) (hn : 0 < ti.n) : ∃ i, P.info? T = some i ∧ i.size = ti.n := by
  cases ti with
  | unk => simp [TI.n] at hn
  | plain => obtain ⟨d, i, h1, h2, h3, h4, h5⟩ := ht; exact ⟨i, h4, h5⟩
  | bool => obtain ⟨h1, i, h2, h3, _⟩ := ht; exact ⟨i, h2, h3⟩
  | str => obtain ⟨h1, i, h2, h3, _⟩ := ht; exact ⟨i, h2, h3⟩
  | int k => obtain ⟨h1, i, h2, h3, _⟩ := ht; exact ⟨i, h2, h3⟩
  | slice e ty size bytes => obtain ⟨h1, ⟨i, h2, h3, _⟩, _⟩ := ht; exact ⟨i, h2, h3⟩
  | arr e ty size len => simp [TI.n] at hn
  | struct fs s z => obtain ⟨fs', i, z', h1, h2, h3, _⟩ := ht; exact ⟨i, h2, h3⟩
/-- A piece of a block is written over. -/
theorem run_storeVar {T : TypeId} {i : TypeInfo} (hi : P.info? T = some i) {g : Nat} {e : TypeId} {pre mid post : List Value} (hh : w.heap[g]? = some (.cells (pre ++ mid ++ post).toArray e (0, 0)))
    {off : Nat} {v : Value} (hv : v.cells.size = i.size) (hle : off + i.size ≤ mid.length) (hone : ∀ c ∈ v.cells.toList, c.oneCell' = true) :
    ∃ w', (storeVar T (Addr.add ⟨g, pre.length, none⟩ off) v).run P w = .ok () w' ∧ But g w w' ∧
      w'.heap[g]? = some (.cells (pre ++ (mid.take off ++ v.cells.toList ++ mid.drop (off + i.size)) ++ post).toArray e (0, 0)) := by
  have hlen : v.cells.toList.length = i.size := by simpa using hv
  have hst := run_storeCells_at P g (pre.length + off) e v.cells.toList 0 _ w hh (by simp only [List.size_toArray, List.length_append]; omega) hone
  have hrun : (storeVar T (Addr.add ⟨g, pre.length, none⟩ off) v).run P w = (storeCells ⟨g, pre.length + off, none⟩ v.cells.toList).run P w := by
    simp [storeVar, run_sizeOf hi, hv, add_at]
  refine ⟨_, hrun.trans hst, ?_, ?_⟩
  · exact ⟨by simp, rfl, rfl, rfl, fun k _ hk => setRow_other w g k _ hk⟩
  · rw [setRow_heap w g _ _ e _ hh]
    congr 2
    apply congrArg
    simp only [Nat.add_zero, hlen]
    have e1 : (pre ++ mid ++ post).take (pre.length + off) = pre ++ mid.take off := by
      rw [List.append_assoc, List.take_append, List.take_of_length_le (by omega), show pre.length + off - pre.length = off by omega, List.take_append, show off - mid.length = 0 by omega]
      simp
    have e2 : (pre ++ mid ++ post).drop (pre.length + off + i.size) = mid.drop (off + i.size) ++ post := by
      rw [List.append_assoc, List.drop_append, List.drop_eq_nil_of_le (by omega), show pre.length + off + i.size - pre.length = off + i.size by omega, List.drop_append, show off + i.size - mid.length = 0 by omega]
      simp
    rw [e1, e2]
    simp [List.append_assoc]
theorem ok_store_run {x y : Operand} {T : TypeId} (ho : o.op = .store T x y) {ad : Addr} (hx : a.eval x = .pointer (some ad)) {w' : World} (h : (storeVar T ad (a.eval y)).run P w = .ok () w') : (execOp a.eval o).run P w = .ok .skip w' := by
  simp [execOp, ho, Instr.storeAt, Instr.sureAddr, hx, h]
theorem flatten_set {k : Nat} : ∀ (css : List (List Value)) (i : Nat) (c : List Value), (∀ c ∈ css, c.length = k) → i < css.length → (css.set i c).flatten = css.flatten.take (i * k) ++ c ++ css.flatten.drop (i * k + k)
  | [], i, c, _, h => by simp at h
  | d :: css, 0, c, h, _ => by
    have hd := h d (by simp)
    simp [List.drop_append, hd]
  | d :: css, i + 1, c, h, hi => by
    have hd := h d (by simp)
    have ih := flatten_set css i c (fun c hc => h c (by simp [hc])) (by simpa using hi)
    simp only [List.set_cons_succ, List.flatten_cons, ih]
    rw [List.take_append, List.take_of_length_le (l := d) (by rw [hd, Nat.add_mul]; omega), List.drop_append, List.drop_eq_nil_of_le (as := d) (by rw [hd, Nat.add_mul]; omega),
      show (i + 1) * k - d.length = i * k by rw [hd, Nat.add_mul]; omega, show (i + 1) * k + k - d.length = i * k + k by rw [hd, Nat.add_mul]; omega]
    simp [List.append_assoc]
theorem ok_store (E : EnvR X F w0 n G st a w) {x y : Operand} {T : TypeId} (ho : o.op = .store T x y) {Γ : Ctx} (ht : (Γ.ty T).ok P T) : OpOK P X G st o a w (evOp Γ o st.look) := by
  unfold evOp; rw [ho]; simp only
  split
  · rename_i d off l h1 h2
    obtain ⟨hm, g, e, mid, hβ, hv, hh, hr, hone⟩ := box_at E h1 h2
    split
    · rename_i cs hcs
      obtain ⟨hcs1, hcs2⟩ := flat_AR E.mems hcs (look_LR E y)
      split
      · rename_i hb1 hb2
        have hb1 := Nat.eq_of_beq_eq_true hb1
        have hb2 := Nat.le_of_ble_eq_true hb2
        have hl := hr.length
        have hl2 := hcs1.length
        have hpos : 0 < (Γ.ty T).n := by
          rw [← hb1]
          unfold flat at hcs
          split at hcs <;> first | (cases hcs; done) | (obtain rfl := Option.some.inj hcs; first | (rw [cellsOf_len]; exact Ty.n_pos _) | simp)
        obtain ⟨i, hi, his⟩ := TI.size ht hpos
        obtain ⟨w', hrun, hbut, hh'⟩ := run_storeVar hi hh (off := off) (v := a.eval y) (by rw [his, ← hb1]; simpa using hl2.symm) (by rw [his, ← hb1]; omega) hcs2
        refine ⟨w', ok_store_run ho hv hrun, ⟨l, hm⟩, g, e, _, hβ, hbut, hh', ?_, ?_⟩
        · have A : Agree w w' (Own X G.β st.m) (Own X G.β st.m) := ⟨fun k hk hno => hbut.heap k hk fun e => hno (.inr ⟨d, by rw [blk_box hm, hβ, e]; rfl⟩), fun _ _ h => h⟩
          have hsz : i.size = cs.length := by rw [his, hb1]
          rw [hsz]
          exact (All2.append (All2.append (All2.take off hr) hcs1) (All2.drop (off + cs.length) hr)).mono fun _ _ => AR_mono A (fun _ _ => rfl) (fun _ => Later.refl _)
        · intro c hc
          rcases List.mem_append.1 hc with hc | hc
          · rcases List.mem_append.1 hc with hc | hc
            · exact hone c (List.mem_of_mem_take hc)
            · exact hcs2 c hc
          · exact hone c (List.mem_of_mem_drop hc)
      · trivial
    · trivial
  · rename_i d i app ty l h1 h2
    split
    · rename_i v hf hv hrows
      obtain ⟨hm, hi, g, e, cap, css, post, hβ, hx, hh, hr, hc, happ⟩ := elt_at E h1 h2
      have hvr := asOne_VR E.mems (look_LR E y) hv (fun _ h => h) (own' := Own X G.β st.m) (by rw [hrows]; intro d hd; cases hd)
      have hR := hvr.1
      have hlens := All2_lens hr
      have hfl := flat_len hr
      have hsz : (Γ.ty T).n = ty.n := by
        cases hti : Γ.ty T <;> rw [hti] at hf <;> cases ty <;> simp [TI.fits] at hf <;> simp [TI.n, Ty.n, hf]
      obtain ⟨ii, hii, his⟩ := TI.size ht (by rw [hsz]; exact Ty.n_pos _)
      have hile : i * ty.n + ty.n ≤ css.flatten.length := by
        rw [hfl, ← Nat.succ_mul]; exact Nat.mul_le_mul_right _ hi
      obtain ⟨w', hrun, hbut, hh'⟩ := run_storeVar hii hh (off := i * ty.n) (v := a.eval y) (by rw [his, hsz]; simpa using R_len hR) (by rw [his, hsz]; exact hile) (R_one hR)
      have A : Agree w w' (Own X G.β st.m) (Own X G.β st.m) := ⟨fun k hk hno => hbut.heap k hk fun e => hno (.inr ⟨d, by rw [blk_row hm, hβ, e]; rfl⟩), fun _ _ h => h⟩
      have hcl : i < css.length := by rw [← hr.length]; exact hi
      have hset := flatten_set css i (a.eval y).cells.toList hlens hcl
      rw [his, hsz] at hh'
      have hlen' : (css.set i (a.eval y).cells.toList).flatten.length = css.flatten.length := by
        rw [hset]; simp only [List.length_append, List.length_take, List.length_drop, R_len hR]; omega
      refine ⟨w', ok_store_run ho hx hrun, ⟨l, hm, by simp⟩, g, e, cap, css.set i (a.eval y).cells.toList, post, by simpa using hβ, hbut, by rw [hset]; exact hh', (All2.set i hr hR).mono fun _ _ => R_mono A, by simpa using hc, ?_⟩
      rw [hlen']; exact happ
    · trivial
  · trivial
theorem ok_nilCheck (E : EnvR X F w0 n G st a w) {x : Operand} (ho : o.op = .nilCheck x) {Γ : Ctx} : OpOK P X G st o a w (evOp Γ o st.look) := by
  unfold evOp; rw [ho]; simp only
  have run : ∀ ad : Addr, a.eval x = .pointer (some ad) → (execOp a.eval o).run P w = .ok (.value (a.eval x)) w := by
    intro ad h; simp [execOp, ho, h]
  have L := (look_LR E x).1
  split
  · rename_i d off l h1 h2
    obtain ⟨hm, g, e, cs, hβ, hv, _⟩ := box_at E h1 h2
    rw [h1] at L
    exact put_ok (run _ hv) L
  · rename_i d i app ty l h1 h2
    obtain ⟨_, _, g, e, cap, css, post, _, hv, _⟩ := elt_at E h1 h2
    rw [h1] at L
    exact put_ok (run _ hv) L
  · rename_i b ty y h1
    rw [h1] at L
    have L' := L
    obtain ⟨ad, cs, hv, _⟩ := L
    exact put_ok (run _ hv) L'
  · trivial
theorem TI.zero_ok {own : Nat → Prop} {β : Nat → Value} {m : Nat → MB} {T : TypeId} {ti : TI} (ht : ti.ok P T) {z : List AV} (hz : ti.zero = some z) :
    ∃ i v, P.info? T = some i ∧ i.zero = some v ∧ All2 (AR w own β m) z v.cells.toList ∧ ∀ c ∈ v.cells.toList, c.oneCell' = true := by
  cases ti <;> simp only [TI.zero] at hz <;> first | (cases hz; done) | (obtain rfl := Option.some.inj hz)
  · obtain ⟨_, i, h1, _, h3⟩ := ht; exact ⟨i, _, h1, h3, ⟨bool_VR _ _ _, trivial⟩, by simp [Value.cells, Value.oneCell']⟩
  · obtain ⟨_, i, h1, _, h3⟩ := ht; exact ⟨i, _, h1, h3, ⟨str_VR _ _ _, trivial⟩, by simp [Value.cells, Value.oneCell']⟩
  · obtain ⟨_, i, h1, _, h3⟩ := ht; exact ⟨i, _, h1, h3, ⟨int_VR _ _ _ _, trivial⟩, by simp [Value.cells, Value.oneCell']⟩
  · obtain ⟨_, ⟨i, h1, _, h3⟩, _⟩ := ht; exact ⟨i, _, h1, h3, ⟨VR_cell (by simp [R]) (by simp) (by simp), trivial⟩, by simp [Value.cells, Value.oneCell']⟩
  · obtain ⟨fs, i, z', _, h1, _, h3, h4, h5, _⟩ := ht; exact ⟨i, _, h1, h3, h4 _ _ _ _, h5⟩
theorem ok_alloc (E : EnvR X F w0 n G st a w) {T : TypeId} (ho : o.op = .alloc T) {Γ : Ctx} (ht : (Γ.ty T).ok P T) : OpOK P X G st o a w (evOp Γ o st.look) := by
  unfold evOp; rw [ho]; simp only
  split
  · rename_i z hz
    obtain ⟨i, v, h1, h2, h3, h4⟩ := TI.zero_ok (w := w) (own := Own X G.β st.m) (β := G.β) (m := st.m) ht hz
    refine ⟨w.heap.size, T, v.cells.toList, w.alloc (.cells v.cells T), ?_, Grows.alloc w _, Nat.le_refl _, heap_alloc_new w _, h3, h4⟩
    simp [execOp, ho, Instr.alloc, run_zero h1 h2, newVar, newRow]
  · trivial
theorem ok_box (E : EnvR X F w0 n G st a w) {T : TypeId} {x : Operand} (ho : o.op = .box T x) {Γ : Ctx} : OpOK P X G st o a w (evOp Γ o st.look) := by
  unfold evOp; rw [ho]; simp only
  split
  · rename_i l hl
    obtain ⟨h1, h2⟩ := flat_AR E.mems hl (look_LR E x)
    refine ⟨w.heap.size, T, (a.eval x).cells.toList, w.alloc (.cells (a.eval x).cells T), ?_, Grows.alloc w _, Nat.le_refl _, heap_alloc_new w _, h1, h2⟩
    simp [execOp, ho, Instr.box, newVar, newRow]
  · trivial
end Go.Proofs.Yteidggfjcanbjaa.E
