/- Each operation does what the evaluator says, 5: what is built. -/
import Derived.Test.YteidggfjcanbjaaQClockMoreS9
import Derived.Great.BuildSlice
namespace Go.Proofs.Yteidggfjcanbjaa.E
open Go Go.RowKit
set_option linter.unusedVariables false
set_option linter.unusedSimpArgs false

variable {P : Program} {X : Nat → Prop} {F : Root} {w0 : World} {n : Nat} {G : Gh} {st : St} {a : Act} {w : World} {o : Oper}

theorem place_list (off : Nat) : ∀ (vs : List Value) (k : Nat) (cells : Array Value), off + k + vs.length ≤ cells.size →
    ((vs.zipIdx k).foldl (fun cs (x : Value × Nat) => cs.setIfInBounds (off + x.2) x.1) cells).toList = cells.toList.take (off + k) ++ vs ++ cells.toList.drop (off + k + vs.length)
  | [], k, cells, _ => by simp
  | v :: vs, k, cells, h => by
    simp only [List.length_cons] at h
    simp only [List.zipIdx_cons, List.foldl_cons]
    rw [place_list off vs (k + 1) (cells.setIfInBounds (off + k) v) (by simp; omega), Array.toList_setIfInBounds]
    have := list_seg_step cells.toList (off + k) v vs (by simp; omega)
    simpa [Nat.add_assoc] using this
theorem place_toList (off : Nat) (v : Value) (cells : Array Value) (h : off + v.cells.size ≤ cells.size) :
    (v.cells.zipIdx.foldl (fun cs (x : Value × Nat) => cs.setIfInBounds (off + x.2) x.1) cells).toList = cells.toList.take off ++ v.cells.toList ++ cells.toList.drop (off + v.cells.size) := by
  rw [← Array.foldl_toList, Array.toList_zipIdx]
  have := place_list off v.cells.toList 0 cells (by simpa using h)
  simpa using this
theorem fill_cons {place : Nat → Option (Nat × Nat)} {cells : Array Value} {i : Nat} {v : Value} {rest : List (Nat × Value)} {off size : Nat} (hp : place i = some (off, size)) (hs : v.cells.size = size) (hle : off + size ≤ cells.size) :
    Instr.fill place cells ((i, v) :: rest) = Instr.fill place (v.cells.zipIdx.foldl (fun cs (x : Value × Nat) => cs.setIfInBounds (off + x.2) x.1) cells) rest := by
  have : ¬ (off + v.cells.size > cells.size) := by omega
  simp only [Instr.fill, hp, hs, ne_eq, not_true_eq_false, decide_false, Bool.false_or]
  rw [if_neg (by simp; omega)]
/-- A struct's parts, put in their places. -/
theorem putParts_ok {N : Nat} (E : EnvR X F w0 n G st a w) {fs : List (Nat × Nat)} (hb : ∀ (i : Nat) (p : Nat × Nat), fs[i]? = some p → p.1 + p.2 ≤ N) : ∀ (parts : List (Nat × Operand)) {z l : List AV} {cells : Array Value}, putParts fs st.look parts z = some l →
    All2 (AR w (Own X G.β st.m) G.β st.m) z cells.toList → (∀ c ∈ cells.toList, c.oneCell' = true) → cells.size = N →
    ∃ cells', Instr.fill (fs.toArray[·]?) cells (parts.map fun p => (p.1, a.eval p.2)) = some cells' ∧ All2 (AR w (Own X G.β st.m) G.β st.m) l cells'.toList ∧ ∀ c ∈ cells'.toList, c.oneCell' = true
  | [], z, l, cells, h, hz, h1, _ => by simp only [putParts] at h; obtain rfl := Option.some.inj h; exact ⟨cells, by simp [Instr.fill], hz, h1⟩
  | (i, x) :: r, z, l, cells, h, hz, h1, hN => by
    simp only [putParts] at h
    split at h
    · rename_i p cs hp hcs
      split at h
      · rename_i hlen
        have hlen := Nat.eq_of_beq_eq_true hlen
        obtain ⟨f1, f2⟩ := flat_AR E.mems hcs (look_LR E x)
        have hvs : (a.eval x).cells.size = p.2 := by have := f1.length; rw [← hlen]; simpa using this.symm
        have hle := hb i p hp
        have hpl := place_toList p.1 (a.eval x) cells (by rw [hvs, hN]; exact hle)
        have hz' : All2 (AR w (Own X G.β st.m) G.β st.m) (z.take p.1 ++ cs ++ z.drop (p.1 + p.2)) ((a.eval x).cells.zipIdx.foldl (fun cs (x : Value × Nat) => cs.setIfInBounds (p.1 + x.2) x.1) cells).toList := by
          rw [hpl, hvs]
          exact All2.append (All2.append (All2.take _ hz) f1) (All2.drop _ hz)
        have h1' : ∀ c ∈ ((a.eval x).cells.zipIdx.foldl (fun cs (x : Value × Nat) => cs.setIfInBounds (p.1 + x.2) x.1) cells).toList, c.oneCell' = true := by
          rw [hpl]
          intro c hc
          rcases List.mem_append.1 hc with hc | hc
          · rcases List.mem_append.1 hc with hc | hc
            · exact h1 c (List.mem_of_mem_take hc)
            · exact f2 c hc
          · exact h1 c (List.mem_of_mem_drop hc)
        have hN' : ((a.eval x).cells.zipIdx.foldl (fun cs (x : Value × Nat) => cs.setIfInBounds (p.1 + x.2) x.1) cells).size = N := by
          rw [← Array.length_toList, hpl]
          simp only [List.length_append, List.length_take, List.length_drop, Array.length_toList, hvs, hN]
          omega
        obtain ⟨cells', hf, hr, hr1⟩ := putParts_ok E hb r h hz' h1' hN'
        refine ⟨cells', ?_, hr, hr1⟩
        simp only [List.map_cons]
        rw [fill_cons (off := p.1) (size := p.2) (by simpa using hp) hvs (by rw [hN]; exact hle)]
        exact hf
      · cases h
    · cases h
theorem ok_build (E : EnvR X F w0 n G st a w) {T : TypeId} {parts : Array (Nat × Operand)} (ho : o.op = .build T parts) {Γ : Ctx} (ht : (Γ.ty T).ok P T) : OpOK P X G st o a w (evOp Γ o st.look) := by
  unfold evOp; rw [ho]; simp only
  split
  · rename_i fs size z hti
    rw [hti] at ht
    obtain ⟨fs', i, z', t1, t2, t3, t4, t5, t6, t7, t8, t9⟩ := ht
    split
    · rename_i l hl
      obtain ⟨cells', hf, hr, hr1⟩ := putParts_ok E (N := size) (fs := fs) (fun k p hp => by obtain ⟨_, _, _, _, _, _, _, h⟩ := t9 k p hp; exact h) parts.toList hl (t5 _ _ _ _) t6 t7
      have hb : P.built T (parts.map fun (i, x) => (i, a.eval x)).toList = some cells' := by
        unfold Program.built
        rw [t2, t1]
        simp only [t4, t8]
        rw [Array.toList_map]
        simpa [Value.cells] using hf
      refine put_ok (x := .agg cells') ?_ ?_
      · simp [execOp, ho, run_build w T _ cells' hb]
      · have := aggOf_AR hr hr1
        simpa using this
    · trivial
  · trivial
theorem range_mod (z : Array Value) (hz : 0 < z.size) : ∀ k : Nat, (List.range (k * z.size)).map (fun j => z[j % z.size]!) = (List.replicate k z.toList).flatten
  | 0 => by simp
  | k + 1 => by
    have h1 : (List.range z.size).map (fun j => z[j % z.size]!) = z.toList := by
      apply List.ext_getElem?
      intro j
      by_cases hj : j < z.size
      · simp [hj, Nat.mod_eq_of_lt hj]
      · simp [hj]
    rw [show (k + 1) * z.size = z.size + k * z.size by rw [Nat.add_mul]; omega, List.range_add, List.map_append, h1, List.map_map, List.replicate_succ, List.flatten_cons, ← range_mod z hz k]
    congr 1
    apply List.map_congr_left
    intro j _
    simp
theorem madeCells_flat (z : Array Value) (hz : 0 < z.size) (k : Nat) : (madeCells z (k * z.size)).toList = (List.replicate k z.toList).flatten := by
  rw [← range_mod z hz k]
  simp [madeCells]
theorem All2_replicate {α β : Type} {Q : α → β → Prop} {x : α} {y : β} (h : Q x y) : ∀ k : Nat, All2 Q (List.replicate k x) (List.replicate k y)
  | 0 => trivial
  | k + 1 => by simp only [List.replicate_succ]; exact ⟨h, All2_replicate h k⟩
/-- A slice's elements, put in their places. -/
theorem putElems_ok (E : EnvR X F w0 n G st a w) {ty : Ty} : ∀ (parts : List (Nat × Operand)) {l l' : List ty.D} {css : List (List Value)} {cells : Array Value}, putElems ty st.look parts l = some l' →
    All2 (R w (Own X G.β st.m) ty) l css → cells.toList = css.flatten →
    ∃ css', Instr.fill (fun i => some (i * ty.n, ty.n)) cells (parts.map fun p => (p.1, a.eval p.2)) = some css'.flatten.toArray ∧ All2 (R w (Own X G.β st.m) ty) l' css'
  | [], l, l', css, cells, h, hr, hc => by
    simp only [putElems] at h; obtain rfl := Option.some.inj h
    exact ⟨css, by simp [Instr.fill, ← hc], hr⟩
  | (i, x) :: r, l, l', css, cells, h, hr, hc => by
    simp only [putElems] at h
    split at h
    · rename_i v hv
      split at h
      · rename_i hrows hlt
        have hlt : i < l.length := by simpa [Nat.blt_eq] using hlt
        have hvr := asOne_VR E.mems (look_LR E x) hv (fun _ h => h) (own' := Own X G.β st.m) (by rw [hrows]; intro d hd; cases hd)
        have hR := hvr.1
        have hvs : (a.eval x).cells.size = ty.n := by simpa using R_len hR
        have hfl := flat_len hr
        have hile : i * ty.n + ty.n ≤ cells.size := by
          have : cells.size = css.flatten.length := by rw [← hc]; simp
          rw [this, hfl, ← Nat.succ_mul]; exact Nat.mul_le_mul_right _ hlt
        have hpl := place_toList (i * ty.n) (a.eval x) cells (by rw [hvs]; exact hile)
        have hset := flatten_set css i (a.eval x).cells.toList (All2_lens hr) (by rw [← hr.length]; exact hlt)
        obtain ⟨css', hf, hr'⟩ := putElems_ok E r (css := css.set i (a.eval x).cells.toList) h (All2.set i hr hR) (by rw [hpl, hset, hc, hvs])
        refine ⟨css', ?_, hr'⟩
        simp only [List.map_cons]
        rw [fill_cons (off := i * ty.n) (size := ty.n) rfl hvs hile]
        exact hf
      · cases h
    · cases h
theorem ok_buildSlice (E : EnvR X F w0 n G st a w) {T : TypeId} {len : Nat} {parts : Array (Nat × Operand)} (ho : o.op = .buildSlice T len parts) {Γ : Ctx} (ht : (Γ.ty T).ok P T) : OpOK P X G st o a w (evOp Γ o st.look) := by
  unfold evOp; rw [ho]; simp only
  split
  · rename_i e ty size bytes hti
    rw [hti] at ht
    obtain ⟨t1, _, i, z, t2, t3, t4, t5, t6⟩ := ht
    have hzs : z.cells.size = ty.n := by have := R_len (t6 w (Own X G.β st.m)); simpa using this
    split
    · split
      · rename_i hp
        have hp' : parts = #[] := by cases parts; simp_all
        subst hp'
        refine ⟨.slice (some ⟨w.heap.size, 0, none⟩) 0 0, w.alloc (.cells #[] e), ?_, Grows.alloc w _, .inr ⟨w.heap.size, e, 0, [], [], rfl, Nat.le_refl _, by rw [heap_alloc_new]; rfl, trivial, Nat.le_refl _, by simp, by unfold maxLen; omega⟩⟩
        simp [execOp, ho, Instr.buildSlice, run_underlying t1, sizeOf, typeInfo, t2, Instr.fill, newRow, show (Array.range 0) = #[] from rfl]
      · trivial
    · rename_i k hk
      have hk : (k + 1) * ty.n ≤ 16777216 := Nat.le_of_ble_eq_true hk
      split
      · rename_i l hl
        have hpos := Ty.n_pos ty
        obtain ⟨css', hf, hr⟩ := putElems_ok E parts.toList (css := List.replicate (k + 1) z.cells.toList) (cells := madeCells z.cells ((k + 1) * z.cells.size)) hl
          (All2_replicate (t6 _ _) _) (madeCells_flat _ (by rw [hzs]; exact hpos) _)
        have hll : l.length = k + 1 := by
          have h1 := hr.length
          have : ∀ (ps : List (Nat × Operand)) (l l' : List ty.D), putElems ty st.look ps l = some l' → l'.length = l.length := by
            intro ps
            induction ps with
            | nil => intro l l' h; simp only [putElems] at h; obtain rfl := Option.some.inj h; rfl
            | cons p ps ih =>
              intro l l' h
              simp only [putElems] at h
              split at h
              · split at h
                · rw [ih _ _ h]; simp
                · cases h
              · cases h
          rw [this _ _ _ hl]; simp
        have hne : ¬ (k + 1) * i.size = 0 := by rw [t3]; exact Nat.mul_ne_zero (by omega) (by omega)
        have hsm : ¬ (k + 1) * i.size > 2 ^ 24 := by rw [t3]; omega
        have hrun := run_buildSlice (P := P) w T e (k + 1) (parts.map fun (i, x) => (i, a.eval x)) css'.flatten.toArray i z t1 t2 t5 hsm hne (by
          rw [Array.toList_map, t3]
          have : (Array.range ((k + 1) * ty.n)).map (z.cells[· % z.cells.size]!) = madeCells z.cells ((k + 1) * z.cells.size) := by unfold madeCells; rw [hzs]
          rw [this]
          exact hf)
        have hgrow : Grows w (w.alloc (.cells css'.flatten.toArray e)) := Grows.alloc w _
        have A := (E.grows hgrow).2
        refine ⟨.slice (some ⟨w.heap.size, 0, none⟩) (k + 1) (k + 1), _, by simp [execOp, ho, hrun], hgrow, ?_⟩
        refine ⟨VR_cell ?_ (by simp) (by simp), ⟨_, by rw [hll]⟩⟩
        simp only [R]
        refine ⟨_, k + 1, by rw [hll], by rw [hll]; exact Nat.le_refl _, .inr ⟨_, css', rfl, ?_, hr.mono fun _ _ => R_mono A, fun j c hj => ?_⟩⟩
        · intro hown
          have hown : Own X G.β st.m w.heap.size := hown
          rcases hown with h | ⟨d, h⟩
          · have := E.xlt _ h; have := E.grown; omega
          · have := blk_lt (E.mems d) h; omega
        · have hh : (w.alloc (.cells css'.flatten.toArray e)).heap[w.heap.size]? = some (.cells ([] ++ css'.flatten ++ []).toArray e (0, 0)) := by rw [heap_alloc_new]; simp
          exact own_cells hh j hj
      · trivial
    · trivial
  · trivial
theorem sameOp_eval {x y : Operand} (h : sameOp x y = true) {k : IntKind} {j : Int} (hx : a.eval x = .int k j) : ∃ k', a.eval y = .int k' j := by
  unfold sameOp at h
  split at h
  · have := Nat.eq_of_beq_eq_true h; subst this; exact ⟨k, hx⟩
  · have := of_decide_eq_true h; subst this
    simp only [Act.eval] at hx ⊢
    cases hx; exact ⟨_, rfl⟩
  · cases h
theorem ok_makeSlice (E : EnvR X F w0 n G st a w) {T : TypeId} {x y : Operand} (ho : o.op = .makeSlice T x y) {Γ : Ctx} (ht : (Γ.ty T).ok P T) : OpOK P X G st o a w (evOp Γ o st.look) := by
  unfold evOp; rw [ho]; simp only
  split
  · rename_i k j e ty size bytes hx hti hs
    obtain ⟨j, rfl⟩ : ∃ j' : Int, j' = j := ⟨j, rfl⟩
    rw [hti] at ht
    obtain ⟨t1, _, i, z, t2, t3, t4, t5, t6⟩ := ht
    have hzs : z.cells.size = ty.n := by have := R_len (t6 w (Own X G.β st.m)); simpa using this
    intro h0 h1
    replace h0 : (0 : Int) ≤ j := h0
    replace h1 : j ≤ 1099511627776 := h1
    have hxv := look_int E hx
    obtain ⟨k', hyv⟩ := sameOp_eval hs hxv
    have hb : (i.bytes : Int) * j ≤ 281474976710656 := by
      have : (i.bytes : Int) ≤ 64 := by omega
      calc (i.bytes : Int) * j ≤ 64 * 1099511627776 := Int.mul_le_mul this h1 h0 (by omega)
        _ ≤ _ := by omega
    have hrun := run_make (P := P) w T e i z t1 t2 t5 k k' j j h0 (Int.le_refl _) hb (by omega)
    refine ⟨.slice (some ⟨w.heap.size, 0, none⟩) j.toNat j.toNat, _, ?_, Grows.alloc w (.cells (madeCells z.cells (j.toNat * i.size)) e), ?_⟩
    · simp [execOp, ho, hxv, hyv, hrun]
    · refine .inr ⟨w.heap.size, e, j.toNat, List.replicate j.toNat z.cells.toList, [], by simp, Nat.le_refl _, ?_, ?_, by simp, ?_, by unfold maxLen; omega⟩
      · rw [heap_alloc_new, t3, ← hzs]
        congr 2
        apply Array.ext'
        rw [madeCells_flat _ (by rw [hzs]; exact Ty.n_pos ty)]
        simp
      · exact All2_replicate (t6 _ _) _
      · have := flat_len (All2_replicate (Q := R w (Own X G.β st.m) ty) (t6 w (Own X G.β st.m)) j.toNat)
        simp only [List.length_nil, Nat.add_zero]
        rw [this]; simp
  · trivial
end Go.Proofs.Yteidggfjcanbjaa.E
