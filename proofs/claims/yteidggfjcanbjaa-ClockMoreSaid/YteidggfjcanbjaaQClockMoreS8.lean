/- Each operation does what the evaluator says, 3: reading and writing. -/
import Derived.Test.YteidggfjcanbjaaQClockMoreS7
namespace Go.Proofs.Yteidggfjcanbjaa.E
open Go Go.RowKit
set_option linter.unusedVariables false
set_option linter.unusedSimpArgs false

variable {P : Program} {X : Nat → Prop} {F : Root} {w0 : World} {n : Nat} {G : Gh} {st : St} {a : Act} {w : World} {o : Oper}

theorem run_isAgg_struct {t : TypeId} {fs : Array Field} (h : P.underlying t = some (.struct fs)) (w : World) : (isAgg t).run P w = .ok true w := by simp [isAgg, run_underlying h]
theorem run_isAgg_not {t : TypeId} {d : TypeDesc} (h : P.underlying t = some d) (h1 : ∀ fs, d ≠ .struct fs) (h2 : ∀ k e, d ≠ .array k e) (w : World) : (isAgg t).run P w = .ok false w := by
  simp only [isAgg, Sem.run_bind, run_underlying h, Result.andThen_ok]
  cases d <;> first | rfl | exact absurd rfl (h1 _) | exact absurd rfl (h2 _ _)
/-- A type that isn't a struct's: one cell. -/
theorem TI.ok_one {t : TypeId} {ti : TI} (h : ti.ok P t) (hn : ti.n = 1) (hs : ∀ fs s z, ti ≠ .struct fs s z) : (∃ d, P.underlying t = some d ∧ (∀ fs, d ≠ .struct fs) ∧ (∀ k e, d ≠ .array k e)) ∧ ∃ i, P.info? t = some i ∧ i.size = 1 := by
  cases ti with
  | unk => simp [TI.n] at hn
  | plain => obtain ⟨d, i, h1, h2, h3, h4, h5⟩ := h; exact ⟨⟨d, h1, h2, h3⟩, i, h4, h5⟩
  | bool => obtain ⟨h1, i, h2, h3, _⟩ := h; exact ⟨⟨_, h1, by simp, by simp⟩, i, h2, h3⟩
  | str => obtain ⟨h1, i, h2, h3, _⟩ := h; exact ⟨⟨_, h1, by simp, by simp⟩, i, h2, h3⟩
  | int k => obtain ⟨h1, i, h2, h3, _⟩ := h; exact ⟨⟨_, h1, by simp, by simp⟩, i, h2, h3⟩
  | slice e ty size bytes => obtain ⟨h1, ⟨i, h2, h3, _⟩, _⟩ := h; exact ⟨⟨_, h1, by simp, by simp⟩, i, h2, h3⟩
  | arr e ty size len => simp [TI.n] at hn
  | struct fs s z => exact absurd rfl (hs _ _ _)
theorem run_load_cell {T : TypeId} {d : TypeDesc} (h : P.underlying T = some d) (h1 : ∀ fs, d ≠ .struct fs) (h2 : ∀ k e, d ≠ .array k e) {ad : Addr} {c : Value} (hc : w.cell? ad = some c) : (Instr.loadAt T (.pointer (some ad))).run P w = .ok c w := by
  simp [Instr.loadAt, Instr.sureAddr, loadVar, run_isAgg_not h h1 h2, hc]
theorem run_load_agg {T : TypeId} {fs : Array Field} {i : TypeInfo} (h : P.underlying T = some (.struct fs)) (hi : P.info? T = some i) {ad : Addr} {cs : List Value} (hl : cs.length = i.size) (hc : ∀ (j : Nat) (c : Value), cs[j]? = some c → w.cell? (ad.add j) = some c) :
    (Instr.loadAt T (.pointer (some ad))).run P w = .ok (.agg cs.toArray) w := by
  have := run_loadCells_list (P := P) w ad cs hc
  rw [hl] at this
  simp [Instr.loadAt, Instr.sureAddr, loadVar, run_isAgg_struct h, run_sizeOf hi, this]
theorem ok_load_run {x : Operand} {T : TypeId} (ho : o.op = .load T x) {p : Value} (hp : a.eval x = p) {v : Value} (h : (Instr.loadAt T p).run P w = .ok v w) : (execOp a.eval o).run P w = .ok (.value v) w := by
  simp [execOp, ho, hp, h]
theorem load_plain {own : Nat → Prop} {T : TypeId} {ti : TI} (ht : ti.ok P T) {ty : Ty} (hf : ti.fits ty = true) {y : ty.D} {ad : Addr} {cs : List Value} (hr : R w own ty y cs) (hc : ∀ (j : Nat) (c : Value), cs[j]? = some c → w.cell? (ad.add j) = some c) :
    ∃ v, (Instr.loadAt T (.pointer (some ad))).run P w = .ok v w ∧ VR w own ty y v := by
  by_cases hs : ∃ fs s z, ti = .struct fs s z
  · obtain ⟨fs, s, z, rfl⟩ := hs
    obtain ⟨fs', i, z', h1, h2, h3, _⟩ := ht
    cases ty <;> simp only [TI.fits] at hf <;> try (cases hf)
    rename_i t
    have hl : cs.length = i.size := by rw [R_len hr, h3]; simp [Ty.n]; exact (Nat.eq_of_beq_eq_true hf).symm
    refine ⟨_, run_load_agg h1 h2 hl hc, ⟨by simpa [Value.cells] using hr, _, rfl⟩⟩
  · have hs' : ∀ fs s z, ti ≠ .struct fs s z := fun fs s z e => hs ⟨fs, s, z, e⟩
    have hn : ti.n = 1 := by cases ti <;> cases ty <;> simp_all [TI.fits, TI.n]
    have hna : (∀ t, ty ≠ .agg t) ∧ (∀ t u, ty ≠ .pair t u) := by cases ti <;> cases ty <;> simp_all [TI.fits]
    obtain ⟨⟨d, h1, h2, h3⟩, _⟩ := TI.ok_one ht hn hs'
    have hl : cs.length = 1 := by
      rw [R_len hr]
      cases ty <;> first | rfl | exact absurd rfl (hna.1 _) | exact absurd rfl (hna.2 _ _)
    match cs, hl, hr, hc with
    | [c], _, hr, hc => exact ⟨c, run_load_cell h1 h2 h3 (hc 0 c rfl), VR_cell hr hna.1 hna.2⟩
/-- What stands behind a pointer into a box. -/
theorem box_at (E : EnvR X F w0 n G st a w) {x : Operand} {d off : Nat} {l : List AV} (h1 : (st.look x).1 = .ptr d off) (h2 : (st.look x).2 = .box l) :
    st.m d = .box l ∧ ∃ (g : Nat) (e : TypeId) (cs : List Value), G.β d = .pointer (some ⟨g, (G.π d).1.length, none⟩) ∧ a.eval x = .pointer (some (Addr.add ⟨g, (G.π d).1.length, none⟩ off)) ∧
      w.heap[g]? = some (.cells ((G.π d).1 ++ cs ++ (G.π d).2).toArray e (0, 0)) ∧ All2 (AR w (Own X G.β st.m) G.β st.m) l cs ∧ ∀ c ∈ cs, c.oneCell' = true := by
  have L := look_LR E x
  obtain ⟨L1, L2⟩ := L
  rw [h1] at L1 L2
  simp only at L2
  have hm : st.m d = .box l := by rw [← L2]; exact h2
  have M := E.mems d
  unfold MR at M; rw [hm] at M; simp only at M
  obtain ⟨g, e, cs, hβ, hh, hr, hone⟩ := M
  simp only [AR, hm] at L1
  obtain ⟨a', ha, _, hv⟩ := L1
  rw [hβ] at ha
  simp at ha
  subst ha
  exact ⟨hm, g, e, cs, hβ, hv, hh, hr, hone⟩
/-- What stands behind a pointer to a row's element. -/
theorem elt_at (E : EnvR X F w0 n G st a w) {x : Operand} {d i : Nat} {app : Bool} {ty : Ty} {l : List ty.D} (h1 : (st.look x).1 = .elt d i) (h2 : (st.look x).2 = .own app ty l) :
    st.m d = .own app ty l ∧ i < l.length ∧ ∃ (g : Nat) (e : TypeId) (cap : Nat) (css : List (List Value)) (post : List Value), G.β d = .slice (some ⟨g, (G.π d).1.length, none⟩) (List.length l) cap ∧
      a.eval x = .pointer (some (Addr.add ⟨g, (G.π d).1.length, none⟩ (i * ty.n))) ∧ w.heap[g]? = some (.cells ((G.π d).1 ++ css.flatten ++ post).toArray e (0, 0)) ∧
      All2 (R w (Own X G.β st.m) ty) l css ∧ List.length l ≤ cap ∧ (if app = true then (G.π d).1 = [] ∧ css.flatten.length + post.length = cap * ty.n ∧ cap ≤ maxLen else post = (G.π d).2) := by
  have L := look_LR E x
  obtain ⟨L1, L2⟩ := L
  rw [h1] at L1 L2
  simp only at L2
  have hm : st.m d = .own app ty l := by rw [← L2]; exact h2
  have M := E.mems d
  unfold MR at M; rw [hm] at M; simp only at M
  simp only [AR, hm] at L1
  obtain ⟨hi, a', ha, hv⟩ := L1
  refine ⟨hm, hi, ?_⟩
  rcases M with ⟨hb, hl, _⟩ | ⟨g, e, cap, css, post, hβ, hh, hr, hc, happ⟩
  · subst hl; simp at hi
  · rw [hβ] at ha
    simp [headOf] at ha
    subst ha
    exact ⟨g, e, cap, css, post, hβ, hv, hh, hr, hc, happ⟩
theorem elem_get {ty : Ty} {own : Nat → Prop} {l : List ty.D} {css : List (List Value)} (h : All2 (R w own ty) l css) {i : Nat} (hi : i < l.length) :
    ∃ cs, css[i]? = some cs ∧ R w own ty (l.getD i ty.dflt) cs ∧ ∀ (j : Nat) (c : Value), cs[j]? = some c → css.flatten[i * ty.n + j]? = some c := by
  have e : l[i]? = some (l.getD i ty.dflt) := by simp [List.getD, List.getElem?_eq_getElem hi]
  obtain ⟨cs, hcs, hr⟩ := All2.get i h e
  refine ⟨cs, hcs, hr, fun j c hj => ?_⟩
  have := piece_get h i 1 j (c := c) (by
    have h2 : (css.drop i).take 1 = [cs] := by
      apply List.ext_getElem?
      intro k
      cases k with
      | zero => simp [List.getElem?_take, hcs]
      | succ k => simp [List.getElem?_take]
    rw [h2]; simpa using hj)
  exact this
theorem ok_load (E : EnvR X F w0 n G st a w) {x : Operand} {T : TypeId} (ho : o.op = .load T x) {Γ : Ctx} (ht : (Γ.ty T).ok P T) : OpOK P X G st o a w (evOp Γ o st.look) := by
  unfold evOp; rw [ho]; simp only
  split
  · rename_i d off l h1 h2
    obtain ⟨hm, g, e, cs, hβ, hv, hh, hr, hone⟩ := box_at E h1 h2
    have hcell : ∀ (j : Nat) (c : Value), cs[off + j]? = some c → w.cell? ((Addr.add ⟨g, (G.π d).1.length, none⟩ off).add j) = some c := by
      intro j c hj
      rw [add_add]; exact own_cells hh (off + j) hj
    have hlen := hr.length
    split
    · rename_i fs size z hti
      split
      · rename_i hle
        have hle : off + size ≤ l.length := Nat.le_of_ble_eq_true hle
        rw [hti] at ht
        obtain ⟨fs', i, z', t1, t2, t3, _⟩ := ht
        refine put_ok (ok_load_run ho hv (run_load_agg t1 t2 (cs := (cs.drop off).take size) (by simp; omega) ?_)) ?_
        · intro j c hj
          rw [List.getElem?_take] at hj
          split at hj
          · exact hcell j c (by simpa using hj)
          · cases hj
        · unfold part
          exact aggOf_AR (All2.take size (All2.drop off hr)) fun c hc => hone c (List.mem_of_mem_drop (List.mem_of_mem_take hc))
      · trivial
    · rename_i hns
      split
      · rename_i v hn hl
        obtain ⟨c, hc, hvc⟩ := hr.get off hl
        obtain ⟨⟨d', t1, t2, t3⟩, _⟩ := TI.ok_one ht (Nat.eq_of_beq_eq_true hn) hns
        refine put_ok (ok_load_run ho hv (run_load_cell t1 t2 t3 ?_)) hvc
        have := hcell 0 c (by simpa using hc)
        rwa [add_zero] at this
      · trivial
  · rename_i d i app ty l h1 h2
    split
    · rename_i hf
      obtain ⟨hm, hi, g, e, cap, css, post, hβ, hv, hh, hr, _, _⟩ := elt_at E h1 h2
      obtain ⟨cs, _, hrc, hcs⟩ := elem_get hr hi
      obtain ⟨v, hl, hvr⟩ := load_plain ht hf hrc (ad := Addr.add ⟨g, (G.π d).1.length, none⟩ (i * ty.n)) fun j c hj => by rw [add_add]; exact own_cells hh _ (hcs j c hj)
      exact put_ok (ok_load_run ho hv hl) hvr
    · trivial
  · rename_i ty y b h1
    split
    · rename_i hf
      have L := (look_LR E x).1
      rw [h1] at L
      obtain ⟨ad, cs, hv, _, hr, hc⟩ := L
      obtain ⟨v, hl, hvr⟩ := load_plain ht hf hr hc
      exact put_ok (ok_load_run ho hv hl) hvr
    · trivial
  · trivial

/-! ### Addresses -/
theorem run_fieldAt {T : TypeId} {fs : Array Field} {k : Nat} {f : Field} {fi : TypeInfo} (h : P.underlying T = some (.struct fs)) (hf : fs[k]? = some f) (hi : P.info? f.type = some fi) (hz : fi.size ≠ 0) (ad : Addr) (w : World) :
    (Instr.fieldAt T (.pointer (some ad)) k).run P w = .ok (.pointer (some (ad.add f.offset))) w := by
  simp [Instr.fieldAt, run_underlying h, hf, Instr.sureAddr, fieldPlace, run_sizeOf hi, hz]
theorem ok_fieldAddr (E : EnvR X F w0 n G st a w) {x : Operand} {T : TypeId} {k : Nat} (ho : o.op = .fieldAddr T x k) {Γ : Ctx} (ht : (Γ.ty T).ok P T) : OpOK P X G st o a w (evOp Γ o st.look) := by
  unfold evOp; rw [ho]; simp only
  have L := (look_LR E x).1
  split
  · rename_i fs size z hti
    rw [hti] at ht
    obtain ⟨fs', i, z', t1, t2, t3, _, _, _, _, _, hfld⟩ := ht
    split
    · rename_i p hp
      obtain ⟨f, fi, hf, hoff, hfi, hsz, hnz, _⟩ := hfld k p hp
      have run : ∀ ad : Addr, a.eval x = .pointer (some ad) → (execOp a.eval o).run P w = .ok (.value (.pointer (some (ad.add p.1)))) w := by
        intro ad hv
        simp [execOp, ho, hv, run_fieldAt t1 hf hfi (by rw [hsz]; exact hnz), hoff]
      split
      · rename_i d off l h1 h2
        obtain ⟨hm, g, e, cs, hβ, hv, _⟩ := box_at E h1 h2
        refine put_ok (run _ hv) ?_
        simp only [AR, hm]
        exact ⟨_, hβ, rfl, by rw [add_add]⟩
      · rename_i b ty y h1
        rw [h1] at L
        obtain ⟨ad, cs, hv, hno, hr, hc⟩ := L
        have hcs : All2 (AR w (Own X G.β st.m) G.β st.m) (cellsOf ty y) cs := cellsOf_AR hr
        split
        · rename_i a' y' hp2 hpart
          refine put_ok (run _ hv) ?_
          have h3 : (cellsOf ty y)[p.1]? = some (.t a' y') := by
            have : (part (cellsOf ty y) p.1 p.2)[0]? = some (.t a' y') := by rw [hpart]; rfl
            unfold part at this
            rw [List.getElem?_take] at this
            split at this
            · simpa using this
            · cases this
          obtain ⟨c, hc', hvr⟩ := hcs.get p.1 h3
          have hone := R_one hr c (List.mem_of_getElem? hc')
          have hr' := hvr.1
          rw [cells_of_one hone] at hr'
          refine ⟨_, [c], rfl, by rw [add_block]; exact hno, hr', fun j c' hj => ?_⟩
          cases j with
          | zero => simp at hj; subst hj; rw [add_zero]; exact hc _ _ hc'
          | succ j => simp at hj
        · rename_i l hp2
          split
          · rename_i a' y' hagg hle
            refine put_ok (run _ hv) ?_
            have hr' := aggOf_AR (All2.take p.2 (All2.drop p.1 hcs)) (fun c hc => R_one hr c (List.mem_of_mem_drop (List.mem_of_mem_take hc)))
            unfold part at hagg
            rw [hagg] at hr'
            refine ⟨_, (cs.drop p.1).take p.2, rfl, by rw [add_block]; exact hno, by simpa [Value.cells] using hr'.1, fun j c' hj => ?_⟩
            rw [List.getElem?_take] at hj
            split at hj
            · rw [add_add]; exact hc _ _ (by simpa using hj)
            · cases hj
          · trivial
        · trivial
      · trivial
    · trivial
  · trivial
theorem run_indexAt {T e : TypeId} {i : TypeInfo} (h : P.underlying T = some (.slice e)) (hi : P.info? e = some i) {k : IntKind} {j : Int} {ad : Addr} {len cap : Nat} (h0 : 0 ≤ j) (h1 : j < (len : Int)) (w : World) :
    (Instr.indexAt T (.slice (some ad) len cap) (.int k j)).run P w = .ok (.pointer (some (ad.add (j.toNat * i.size)))) w := by
  simp [Instr.indexAt, asIntOf, run_underlying h, run_sizeOf hi, h0, h1]
theorem run_indexAt_arr {T e : TypeId} {i : TypeInfo} {len : Nat} (h : P.underlying T = some (.array len e)) (hi : P.info? e = some i) {k : IntKind} {j : Int} {ad : Addr} (h0 : 0 ≤ j) (h1 : j < (len : Int)) (h2 : 2 ≤ len) (w : World) :
    (Instr.indexAt T (.pointer (some ad)) (.int k j)).run P w = .ok (.pointer (some (ad.add (j.toNat * i.size)))) w := by
  simp [Instr.indexAt, asIntOf, run_underlying h, run_sizeOf hi, h0, h1, Instr.sureAddr]
/-- Tables that start-up lays: what they hold. -/
def Laid (Γ : Ctx) (w : World) : Prop := ∀ g k l, Γ.glob g = some (k, l) → ∃ (e : TypeId) (cs : List Value) (fr : Nat × Nat), w.heap[g]? = some (.cells cs.toArray e fr) ∧ cs = l.map (Value.int k)
theorem ok_indexAddr (E : EnvR X F w0 n G st a w) {x i : Operand} {T : TypeId} (ho : o.op = .indexAddr T x i) {Γ : Ctx} (ht : (Γ.ty T).ok P T) (hL : Laid Γ w) (hg : ∀ g v, Γ.glob g = some v → ¬ Own X G.β st.m g) :
    OpOK P X G st o a w (evOp Γ o st.look) := by
  unfold evOp; rw [ho]; simp only
  have L := (look_LR E x)
  have run : ∀ {p : Value}, (Instr.indexAt T (a.eval x) (a.eval i)).run P w = .ok p w → (execOp a.eval o).run P w = .ok (.value p) w := by
    intro p h; simp [execOp, ho, h]
  split
  · rename_i k j e tt size bytes hi hti
    obtain ⟨j, rfl⟩ : ∃ j' : Int, j' = j := ⟨j, rfl⟩
    rw [hti] at ht
    obtain ⟨t1, _, ie, z, t2, t3, t4, _⟩ := ht
    have hiv := look_int E hi
    split
    · rename_i b ty l h1
      cases hd : decide (ty = tt)
      · trivial
      · obtain rfl := of_decide_eq_true hd
        intro h0 h1'
        replace h0 : (0 : Int) ≤ j := h0
        replace h1' : j < (l.length : Int) := h1'
        have hv := VR_lst (look_t E h1)
        simp only [R] at hv
        obtain ⟨ao, cap, hx, hc, hl⟩ := hv
        have hx : a.eval x = .slice ao (List.length l) cap := by simpa using hx
        have hlt : j.toNat < l.length := by omega
        rcases hl with hl | ⟨ad, css, rfl, hno, hr, hcell⟩
        · subst hl; simp at hlt
        · obtain ⟨cs, _, hrc, hcs⟩ := elem_get hr hlt
          refine put_ok (run (by rw [hx, hiv]; exact run_indexAt t1 t2 h0 h1' w)) ⟨_, cs, rfl, by rw [add_block]; exact hno, hrc, fun q c hq => ?_⟩
          rw [add_add, t3]
          exact hcell _ _ (hcs q c hq)
    · rename_i d app ty l h1 h2
      cases hd : decide (ty = tt)
      · trivial
      · obtain rfl := of_decide_eq_true hd
        intro h0 h1'
        replace h0 : (0 : Int) ≤ j := h0
        replace h1' : j < (l.length : Int) := h1'
        obtain ⟨L1, L2⟩ := L
        rw [h1] at L1 L2
        simp only at L2
        have hm : st.m d = .own app ty l := by rw [← L2]; exact h2
        have hx : a.eval x = G.β d := by simp only [AR, hm] at L1; exact L1
        have hlt : j.toNat < l.length := by omega
        have M := E.mems d
        unfold MR at M; rw [hm] at M; simp only at M
        rcases M with ⟨_, hl, _⟩ | ⟨g, e', cap, css, post, hβ, hh, hr, hc, happ⟩
        · subst hl; simp at hlt
        · refine put_ok (run (by rw [hx, hβ, hiv]; exact run_indexAt t1 t2 h0 h1' w)) ?_
          simp only [AR, hm]
          exact ⟨hlt, _, by rw [hβ]; rfl, by rw [t3]⟩
    · rename_i d off len app ty l h1 h2
      cases hd : decide (ty = tt)
      · trivial
      · obtain rfl := of_decide_eq_true hd
        intro h0 h1'
        replace h0 : (0 : Int) ≤ j := h0
        replace h1' : j < (len : Int) := h1'
        obtain ⟨L1, L2⟩ := L
        rw [h1] at L1 L2
        simp only at L2
        have hm : st.m d = .own app ty l := by rw [← L2]; exact h2
        simp only [AR, hm] at L1
        obtain ⟨hle, cap', hcap, hv⟩ := L1
        have hlt : off + j.toNat < l.length := by omega
        have M := E.mems d
        unfold MR at M; rw [hm] at M; simp only at M
        rcases M with ⟨_, hl, _⟩ | ⟨g, e', cap, css, post, hβ, hh, hr, hc, happ⟩
        · subst hl; simp at hlt
        · rw [hβ] at hv
          refine put_ok (run (by rw [hv, hiv]; exact run_indexAt t1 t2 h0 h1' w)) ?_
          simp only [AR, hm]
          refine ⟨hlt, _, by rw [hβ]; rfl, ?_⟩
          rw [add_add, t3, ← Nat.add_mul]
    · trivial
  · rename_i k j e tt size len hi hti
    obtain ⟨j, rfl⟩ : ∃ j' : Int, j' = j := ⟨j, rfl⟩
    rw [hti] at ht
    obtain ⟨t1, ie, t2, t3⟩ := ht
    have hiv := look_int E hi
    split
    · rename_i g h1
      split
      · rename_i v hgv
        cases hb : decide (Ty.int v.1 = tt) && Nat.beq v.2.length len && Nat.ble 2 len
        · trivial
        · simp only [Bool.and_eq_true] at hb
          obtain ⟨⟨hb1, hb2⟩, hb3⟩ := hb
          obtain rfl := of_decide_eq_true hb1
          have hb2 := Nat.eq_of_beq_eq_true hb2
          have hb3 := Nat.le_of_ble_eq_true hb3
          intro h0 h1'
          replace h0 : (0 : Int) ≤ j := h0
          replace h1' : j < (len : Int) := h1'
          have hx : a.eval x = .pointer (some ⟨g, 0, none⟩) := by have := L.1; rw [h1] at this; exact this
          obtain ⟨e', cs, fr, hh, hcs⟩ := hL g v.1 v.2 hgv
          have hlt : j.toNat < v.2.length := by omega
          refine put_ok (run (by rw [hx, hiv]; exact run_indexAt_arr t1 t2 h0 h1' hb3 w)) ⟨_, [.int v.1 (rdT (.int v.1) v.2 j)], rfl, ?_, by simp [R], fun q c hq => ?_⟩
          · rw [add_block]; exact hg g v hgv
          · cases q with
            | succ q => simp at hq
            | zero =>
              simp at hq; subst hq
              rw [add_zero, t3]
              have : Addr.add ⟨g, 0, none⟩ (j.toNat * (Ty.int v.1).n) = ⟨g, j.toNat, none⟩ := by simp [Ty.n, Addr.add]; intro h; omega
              rw [this, cell_of_row w g _ _ e' fr hh, hcs]
              simp [rdT, List.getD, hlt]
      · trivial
    · trivial
  · trivial
end Go.Proofs.Yteidggfjcanbjaa.E
