/- Each operation does what the evaluator says, 7: append. -/
import Derived.Test.YteidggfjcanbjaaQClockMoreS11
namespace Go.Proofs.Yteidggfjcanbjaa.E
open Go Go.RowKit
set_option linter.unusedVariables false
set_option linter.unusedSimpArgs false

variable {P : Program} {X : Nat → Prop} {F : Root} {w0 : World} {n : Nat} {G : Gh} {st : St} {a : Act} {w : World} {o : Oper}

theorem run_append_fits {t ty e e' : TypeId} {i : TypeInfo} (ht : P.underlying t = some (.slice e)) (hi : P.info? e = some i)
    {g sLen sCap : Nat} {cur : Array Value} (hg : w.heap[g]? = some (.cells cur e' (0, 0)))
    {ad : Addr} {m c : Nat} {news : List Value} (hl : news.length = m * i.size) (hnews : ∀ j u, news[j]? = some u → w.cell? (ad.add j) = some u) (h1 : ∀ u ∈ news, u.oneCell' = true)
    (hroom : sLen + m ≤ sCap) (hfit : sLen * i.size + news.length ≤ cur.size) :
    (Builtin.append_ #[t, t] ty #[.slice (some ⟨g, 0, none⟩) sLen sCap, .slice (some ad) m c]).run P w =
      .ok (.slice (some ⟨g, 0, none⟩) (sLen + m) sCap) (w.setRow g (cur.toList.take (sLen * i.size) ++ news ++ cur.toList.drop (sLen * i.size + news.length)).toArray) := by
  have hf := run_firstCells_some (P := P) w i.size m ad m c news hl hnews
  have hst := run_storeCells_at P g (sLen * i.size) e' news 0 cur w hg (by simpa using hfit) h1
  simp only [Nat.add_zero] at hst
  simp [Builtin.append_, run_underlying ht, sizeOf, typeInfo, hi, Builtin.lenOf, hroom, hf, Addr.add_lit, hst]
theorem run_append_none {t ty e : TypeId} {i : TypeInfo} (ht : P.underlying t = some (.slice e)) (hi : P.info? e = some i) {base ao : Option Addr} {k cap c : Nat} (hk : k ≤ cap) :
    (Builtin.append_ #[t, t] ty #[.slice base k cap, .slice ao 0 c]).run P w = .ok (.slice base k cap) w := by
  have hf : (Builtin.firstCells i.size 0 (.slice ao 0 c)).run P w = .ok #[] w := by
    cases ao <;> simp [Builtin.firstCells, loadCells, loadCellsFrom]
  cases base <;> simp [Builtin.append_, run_underlying ht, sizeOf, typeInfo, hi, Builtin.lenOf, hk, hf, storeCells]
theorem ok_append_run {x y : Operand} {t : TypeId} (ho : o.op = .call { callee := .builtin .append, args := #[x, y], argTypes := #[t, t] }) {v : Value} {w' : World}
    (h : (Builtin.append_ #[t, t] o.type #[a.eval x, a.eval y]).run P w = .ok v w') : (execOp a.eval o).run P w = .ok (.value v) w' := by
  simp [execOp, ho, resolve, invoke, builtin, h]
/-- What an append hands over, by cases: nothing is added; a new block; the old one, filled up. -/
inductive Appended (w w' : World) (size : Nat) (base : Value) (olds news : List Value) (v : Value) (k m : Nat) : Prop where
  | same (h : w' = w) (hv : v = base) (hn : news = []) (hm : m = 0)
  | new (e : TypeId) (cap : Nat) (post : List Value) (hg : Grows w w') (hv : v = .slice (some ⟨w.heap.size, 0, none⟩) (k + m) cap) (hh : w'.heap[w.heap.size]? = some (.cells (olds ++ news ++ post).toArray e (0, 0)))
      (hc : k + m ≤ cap) (hs : (olds ++ news).length + post.length = cap * size) (hcm : cap ≤ maxLen)
  | room (g : Nat) (e : TypeId) (cap c : Nat) (post : List Value) (hm : 0 < m) (hb : base = .slice (some ⟨g, 0, none⟩) k cap) (hbut : But g w w') (hv : v = .slice (some ⟨g, 0, none⟩) (k + m) cap)
      (hh : w'.heap[g]? = some (.cells (olds ++ news ++ post).toArray e (0, 0))) (hc : k + m ≤ cap) (hs : (olds ++ news).length + post.length = cap * size) (hcm : cap ≤ maxLen)
theorem grown_new {t ty e : TypeId} {i : TypeInfo} {z : Value} (hz : z.cells.size = i.size) (olds news : List Value) (k m old : Nat) (hlo : olds.length = k * i.size) (hl : news.length = m * i.size) (hlt : k + m ≤ maxLen) :
    let cap := grownCap w (k + m) old e
    let w' := w.drew.alloc (.cells (olds.toArray ++ news.toArray ++ Builtin.zeroCells z.cells (cap - (k + m))) e)
    Grows w w' ∧ w'.heap[w.heap.size]? = some (.cells (olds ++ news ++ (Builtin.zeroCells z.cells (cap - (k + m))).toList).toArray e (0, 0)) ∧ k + m ≤ cap ∧
      (olds ++ news).length + (Builtin.zeroCells z.cells (cap - (k + m))).toList.length = cap * i.size ∧ cap ≤ maxLen := by
  intro cap w'
  have h1 : k + m ≤ cap := grownCap_ge w (k + m) old e
  refine ⟨(Grows.drew w).trans (Grows.alloc _ _), ?_, h1, ?_, grownCap_le_maxLen w (k + m) old e hlt⟩
  · have := heap_alloc_new w.drew (.cells (olds.toArray ++ news.toArray ++ Builtin.zeroCells z.cells (cap - (k + m))) e)
    refine this.trans ?_
    congr 2
    apply Array.ext'
    simp [List.append_assoc]
  · simp only [List.length_append, hlo, hl, Array.length_toList, size_zeroCells, hz, ← Nat.add_mul]
    congr 1
    omega
theorem append_cases {t ty e : TypeId} {i : TypeInfo} {z : Value} (ht : P.underlying t = some (.slice e)) (hi : P.info? e = some i) (hz : i.zero = some z) (hzs : z.cells.size = i.size) (hby : i.bytes ≤ 64)
    {base : Value} {olds : List Value} {k cap : Nat} {ao : Option Addr} (hb : base = .slice ao k cap) (hk : k ≤ cap) (hlo : olds.length = k * i.size)
    (holds : olds = [] ∨ ∃ ad, ao = some ad ∧ ∀ (j : Nat) (v : Value), olds[j]? = some v → w.cell? (ad.add j) = some v)
    (hown : cap = k ∨ ∃ g e' post, ao = some ⟨g, 0, none⟩ ∧ w.heap[g]? = some (.cells (olds ++ post).toArray e' (0, 0)) ∧ olds.length + post.length = cap * i.size ∧ cap ≤ maxLen)
    (hnil : ao = none → cap = 0)
    {y : Value} {news : List Value} {m c : Nat} {ay : Option Addr} (hy : y = .slice ay m c) (hl : news.length = m * i.size)
    (hnews : news = [] ∧ m = 0 ∨ ∃ ad, ay = some ad ∧ ∀ (j : Nat) (v : Value), news[j]? = some v → w.cell? (ad.add j) = some v) (h1 : ∀ u ∈ news, u.oneCell' = true) (hpos : 0 < i.size)
    (hlen : k + m ≤ 1099511627776) :
    ∃ v w', (Builtin.append_ #[t, t] ty #[base, y]).run P w = .ok v w' ∧ Appended w w' i.size base olds news v k m := by
  subst hb; subst hy
  have hml : k + m ≤ maxLen := by unfold maxLen; omega
  have hbytes : (k + m) * i.bytes ≤ 140737488355328 := by
    calc (k + m) * i.bytes ≤ 1099511627776 * 64 := Nat.mul_le_mul hlen hby
      _ ≤ _ := by omega
  by_cases hm : m = 0
  · subst hm
    have hn : news = [] := List.eq_nil_of_length_eq_zero (by simpa using hl)
    exact ⟨_, w, run_append_none ht hi hk, .same rfl rfl hn rfl⟩
  obtain ⟨ad, rfl, hnews2⟩ := hnews.resolve_left (fun h => hm h.2)
  cases ao with
  | none =>
    have hc0 := hnil rfl
    subst hc0
    have hk0 : k = 0 := by omega
    subst hk0
    have ho : olds = [] := List.eq_nil_of_length_eq_zero (by simpa using hlo)
    subst ho
    have hr := run_append_nil (P := P) w t ty e i z ht hi hz ad m c news hl hnews2 (by omega) (by omega) (by simp only [Nat.zero_add] at hbytes; omega)
    obtain ⟨g1, g2, g3, g4, g5⟩ := grown_new (w := w) (t := t) (ty := ty) (e := e) hzs [] news 0 m 0 (by simp) hl hml
    simp only [Nat.zero_add, List.nil_append, Array.empty_append] at hr g1 g2 g3 g4 g5
    refine ⟨_, _, hr, .new e _ _ (by simpa using g1) (by simp) (by simpa using g2) (by simpa using g3) (by simpa using g4) g5⟩
  | some b =>
    by_cases hroom : k + m ≤ cap
    · rcases hown with hck | ⟨g, e', post, hb, hh, hs, hcm⟩
      · omega
      · obtain rfl : b = ⟨g, 0, none⟩ := by simpa using hb
        have hfit : k * i.size + news.length ≤ (olds ++ post).toArray.size := by
          simp only [List.size_toArray, List.length_append, hs, hl, ← Nat.add_mul]
          exact Nat.mul_le_mul_right _ hroom
        have hr := run_append_fits (P := P) (ty := ty) ht hi hh hl hnews2 h1 hroom hfit (c := c)
        refine ⟨_, _, hr, .room g e' cap c (post.drop news.length) (by omega) rfl ⟨by simp, rfl, rfl, rfl, fun k _ hk => setRow_other w g k _ hk⟩ rfl ?_ hroom ?_ hcm⟩
        · rw [setRow_heap w g _ _ e' _ hh]
          congr 2
          apply congrArg
          simp only [List.toList_toArray]
          rw [← hlo, List.take_left, List.drop_append, List.drop_eq_nil_of_le (as := olds) (by omega), show olds.length + news.length - olds.length = news.length by omega]
          simp
        · simp only [List.length_append, List.length_drop]
          have : news.length ≤ post.length := by
            simp only [List.size_toArray, List.length_append] at hfit; omega
          omega
    · have holds' : ∀ (j : Nat) (v : Value), olds[j]? = some v → w.cell? (b.add j) = some v := by
        rcases holds with h | ⟨ad', h, h'⟩
        · subst h; simp
        · obtain rfl : b = ad' := by simpa using h
          exact h'
      have hr := run_append_grow (P := P) w t ty e i z ht hi hz b k cap olds hlo holds' ad m c news hl hnews2 (by omega) (by omega) (growslice_fits (by omega) hbytes)
      obtain ⟨g1, g2, g3, g4, g5⟩ := grown_new (w := w) (t := t) (ty := ty) (e := e) hzs olds news k m cap hlo hl hml
      exact ⟨_, _, hr, .new e _ _ g1 rfl g2 g3 g4 g5⟩

theorem memN_false {n : Nat} : ∀ {l : List Nat}, memN n l = false → n ∉ l
  | [], _, h => by cases h
  | m :: r, h, h' => by
    simp only [memN, Bool.or_eq_false_iff] at h
    rcases List.mem_cons.1 h' with rfl | h'
    · rw [Nat.beq_refl] at h; exact absurd h.1 (by decide)
    · exact memN_false h.2 h'
theorem ok_evAppend (E : EnvR X F w0 n G st a w) {x y : Operand} {t e : TypeId} (ho : o.op = .call { callee := .builtin .append, args := #[x, y], argTypes := #[t, t] }) {ty : Ty} {i : TypeInfo} {z : Value}
    (ht : P.underlying t = some (.slice e)) (hi : P.info? e = some i) (hsz : i.size = ty.n) (hby : i.bytes ≤ 64) (hz : i.zero = some z) (hzR : ∀ w own, R w own ty ty.dflt z.cells.toList)
    {add : List ty.D} (hadd : asOne (st.look y).1 (st.look y).2 (.lst ty) = some add) : OpOK P X G st o a w (evAppend ty add (st.look x) (rowsOf [(st.look y).1])) := by
  have hzs : z.cells.size = i.size := by have := R_len (hzR w (Own X G.β st.m)); rw [hsz]; simpa using this
  have hpos : 0 < i.size := by rw [hsz]; exact Ty.n_pos ty
  -- the source
  obtain ⟨E1, hsub, hfree⟩ := E.kill (rowsOf [(st.look y).1])
  have hsub' : ∀ g, Own X G.β (st.kill (rowsOf [(st.look y).1])).m g → Own X G.β st.m g := fun g h => Own_kill hsub h
  have hy := VR_lst (asOne_VR E.mems (look_LR E y) hadd hsub' hfree)
  simp only [R] at hy
  obtain ⟨ay, c, hyv, hcl, hyR⟩ := hy
  have hyv : a.eval y = .slice ay (List.length add) c := by simpa using hyv
  have hnews : ∃ css : List (List Value), All2 (R w (Own X G.β (st.kill (rowsOf [(st.look y).1])).m) ty) add css ∧ (css.flatten = [] ∧ add.length = 0 ∨ ∃ ad, ay = some ad ∧ ∀ (j : Nat) (v : Value), css.flatten[j]? = some v → w.cell? (ad.add j) = some v) := by
    rcases hyR with h | ⟨ad, css, h, _, hr, hcell⟩
    · subst h; exact ⟨[], trivial, .inl ⟨rfl, rfl⟩⟩
    · exact ⟨css, hr, .inr ⟨ad, h, hcell⟩⟩
  obtain ⟨css, hcr, hnews⟩ := hnews
  have hcl' : css.flatten.length = add.length * i.size := by rw [hsz]; exact flat_len hcr
  have hone : ∀ u ∈ css.flatten, u.oneCell' = true := by
    intro u hu
    obtain ⟨c', hc', hu⟩ := List.mem_flatten.1 hu
    have : ∀ {l : List ty.D} {css : List (List Value)}, All2 (R w (Own X G.β (st.kill (rowsOf [(st.look y).1])).m) ty) l css → ∀ c ∈ css, ∀ u ∈ c, u.oneCell' = true := by
      intro l
      induction l with
      | nil => intro css h c hc; cases css <;> first | exact h.elim | cases hc
      | cons q l ih =>
        intro css h c hc
        cases css with
        | nil => cases hc
        | cons d css =>
          rcases List.mem_cons.1 hc with rfl | hc
          · exact R_one h.1
          · exact ih h.2 c hc
    exact this hcr c' hc' u hu
  unfold evAppend
  split
  · rename_i u b hx
    intro hlen
    have hxv := VR_nil (look_t E hx)
    obtain ⟨v, w', hrun, hA⟩ := append_cases (P := P) (w := w) (ty := o.type) ht hi hz hzs hby (base := a.eval x) (olds := []) (k := 0) (cap := 0) (ao := none) hxv (Nat.le_refl _) (by simp) (.inl rfl) (.inl rfl) (fun _ => rfl)
      hyv hcl' hnews hone hpos (by omega)
    refine ⟨v, w', ok_append_run ho hrun, ?_⟩
    rcases hA with ⟨rfl, hv, hn, hm⟩ | ⟨e', cap, post, hg, hv, hh, hc, hs, hcm⟩ | ⟨g, e', cap, c', post, hm, hb, _⟩
    · have : add = [] := List.eq_nil_of_length_eq_zero hm
      exact ⟨Nat.le_refl _, rfl, rfl, rfl, fun _ _ _ => rfl, (fun _ h => by cases h), .inl ⟨by rw [hv, hxv], this⟩⟩
    · refine ⟨hg.size, hg.os, hg.tape, hg.output, fun k hk _ => hg.heap k hk, (fun _ h => by cases h), .inr ⟨_, e', cap, css, post, by rw [hv]; simp, .inl (Nat.le_refl _), by simpa using hh, hcr, by simpa using hc, by rw [← hsz]; simpa using hs, hcm⟩⟩
    · rw [hxv] at hb; cases hb
  · rename_i a1 l hx hx2
    split
    · rename_i hrows
      split
      · rename_i he
        subst he
        intro hlen
        replace hlen : List.length l + List.length add ≤ 1099511627776 := hlen
        have L := look_LR E x
        obtain ⟨L1, L2⟩ := L
        rw [hx] at L1 L2
        simp only at L2
        have hcap : ∃ ao, a.eval x = .slice ao (List.length l) (List.length l) := by
          rcases L2 with h | ⟨_, h⟩
          · rw [hx2] at h; cases h
          · exact h
        obtain ⟨ao, hxv⟩ := hcap
        have hl := VR_lst L1
        simp only [R] at hl
        obtain ⟨ao', cap', he, _, hl⟩ := hl
        obtain ⟨rfl, rfl⟩ : ao = ao' ∧ List.length l = cap' := by rw [hxv] at he; simpa using he
        have hbase : ∃ os : List (List Value), All2 (R w (Own X G.β st.m) a1) l os ∧ (os.flatten = [] ∨ ∃ ad, ao = some ad ∧ ¬ Own X G.β st.m ad.block ∧ ∀ (j : Nat) (v : Value), os.flatten[j]? = some v → w.cell? (ad.add j) = some v) := by
          rcases hl with h | ⟨ad, os, h, hno, hr, hcell⟩
          · subst h; exact ⟨[], trivial, .inl rfl⟩
          · exact ⟨os, hr, .inr ⟨ad, h, hno, hcell⟩⟩
        obtain ⟨os, hor, hos⟩ := hbase
        obtain ⟨v, w', hrun, hA⟩ := append_cases (P := P) (w := w) (ty := o.type) ht hi hz hzs hby (base := a.eval x) (olds := os.flatten) (k := List.length l) (cap := List.length l) (ao := ao) hxv (Nat.le_refl _)
          (by rw [hsz]; exact flat_len hor) (hos.imp id fun ⟨ad, h, _, h'⟩ => ⟨ad, h, h'⟩) (.inl rfl)
          (fun h => by
            rcases hos with h' | ⟨ad, h', _⟩
            · have h0 := flat_len hor; rw [h'] at h0
              have h0 : List.length l * a1.n = 0 := h0.symm
              rcases Nat.mul_eq_zero.1 h0 with h | h
              · exact h
              · have := Ty.n_pos a1; omega
            · rw [h] at h'; cases h')
          hyv hcl' hnews hone hpos hlen
        rw [hrows] at hcr
        have hkill : (st.kill []).m = st.m := rfl
        rw [hkill] at hcr
        refine ⟨v, w', ok_append_run ho hrun, ?_⟩
        rcases hA with ⟨rfl, hv, hn, hm⟩ | ⟨e', cap, post, hg, hv, hh, hc, hs, hcm⟩ | ⟨g, e', cap, c', post, hm, hb, hbut, hv, hh, hc, hs, hcm⟩
        · have : add = [] := List.eq_nil_of_length_eq_zero hm
          subst this
          refine ⟨Grows.refl _, ?_⟩
          rw [hv]
          have h3 : VR w' (Own X G.β st.m) (.lst a1) l (a.eval x) := L1
          show VR w' (Own X G.β st.m) (.lst a1) (l ++ []) (a.eval x)
          rw [List.append_nil]; exact h3
        · refine ⟨hg, ?_⟩
          have A := (E.grows hg).2
          show VR _ _ (.lst a1) (l ++ add) v
          refine VR_cell (ty := .lst a1) ?_ (by simp) (by simp)
          simp only [R]
          refine ⟨some ⟨w.heap.size, 0, none⟩, cap, by rw [hv]; simp, by simpa using hc, .inr ⟨⟨w.heap.size, 0, none⟩, os ++ css, rfl, ?_, (All2.append hor hcr).mono fun _ _ => R_mono A, fun j c hj => ?_⟩⟩
          · intro hown
            have hown : Own X G.β st.m w.heap.size := hown
            rcases hown with h | ⟨d, h⟩
            · have := E.xlt _ h; have := E.grown; omega
            · have := blk_lt (E.mems d) h; omega
          · have hh : w'.heap[w.heap.size]? = some (.cells ([] ++ (os ++ css).flatten ++ post).toArray e' (0, 0)) := by rw [hh]; simp
            exact own_cells hh j hj
        · exfalso
          rw [hxv] at hb
          have hck : cap = List.length l := by simp at hb; exact hb.2.symm
          omega
      · trivial
    · trivial
  · rename_i d a1 l hx hx2
    split
    · rename_i hmem
      split
      · rename_i he
        subst he
        intro hlen
        replace hlen : List.length l + List.length add ≤ 1099511627776 := hlen
        have L := look_LR E x
        obtain ⟨L1, L2⟩ := L
        rw [hx] at L1 L2
        simp only at L2
        have hmd : st.m d = .own true a1 l := by rw [← L2]; exact hx2
        have hxv : a.eval x = G.β d := by simp only [AR, hmd] at L1; exact L1
        have hM := E.mems d
        unfold MR at hM; rw [hmd] at hM; simp only at hM
        have hbase : ∀ d', some d = some d' → d' ∉ rowsOf [(st.look y).1] ∧ ∃ ty l, st.m d' = .own true ty l := by
          intro d' e
          cases e
          exact ⟨memN_false hmem, a1, l, hmd⟩
        have Ak : Agree w w (Own X G.β st.m) (Own X G.β (st.kill (rowsOf [(st.look y).1])).m) := ⟨fun _ _ _ => rfl, fun g _ h => hsub' g h⟩
        rcases hM with ⟨hβ, hl, _⟩ | ⟨g, e0, cap, os, post0, hβ, hh0, hor, hc0, happ⟩
        · subst hl
          obtain ⟨v, w', hrun, hA⟩ := append_cases (P := P) (w := w) (ty := o.type) ht hi hz hzs hby (base := a.eval x) (olds := []) (k := 0) (cap := 0) (ao := none) (hxv.trans hβ) (Nat.le_refl _) (by simp) (.inl rfl) (.inl rfl) (fun _ => rfl)
            hyv hcl' hnews hone hpos (by simpa using hlen)
          refine ⟨v, w', ok_append_run ho hrun, ?_⟩
          rcases hA with ⟨rfl, hv, hn, hm⟩ | ⟨e', cap, post, hg, hv, hh, hc, hs, hcm⟩ | ⟨g, e', cap, c', post, hm, hb, _⟩
          · have : add = [] := List.eq_nil_of_length_eq_zero hm
            exact ⟨Nat.le_refl _, rfl, rfl, rfl, fun _ _ _ => rfl, hbase, .inl ⟨by rw [hv, hxv, hβ], by rw [this]; rfl⟩⟩
          · refine ⟨hg.size, hg.os, hg.tape, hg.output, fun k hk _ => hg.heap k hk, hbase, .inr ⟨_, e', cap, css, post, by rw [hv]; simp [castD], .inl (Nat.le_refl _), by simpa using hh, hcr, by simpa [castD] using hc, by rw [← hsz]; simpa using hs, hcm⟩⟩
          · rw [hxv, hβ] at hb; cases hb
        · rw [if_pos trivial] at happ
          obtain ⟨hπ, hs0, hcm0⟩ := happ
          rw [hπ] at hβ hh0
          have hβ : G.β d = .slice (some ⟨g, 0, none⟩) (List.length l) cap := hβ
          have hh0 : w.heap[g]? = some (.cells (os.flatten ++ post0).toArray e0 (0, 0)) := by simpa using hh0
          have hbd : blk G.β st.m d = some g := by unfold blk; rw [hmd, hβ]; rfl
          have hor' := hor.mono fun x cs hx => R_mono Ak hx
          obtain ⟨v, w', hrun, hA⟩ := append_cases (P := P) (w := w) (ty := o.type) ht hi hz hzs hby (base := a.eval x) (olds := os.flatten) (k := List.length l) (cap := cap) (ao := some ⟨g, 0, none⟩) (hxv.trans hβ) hc0
            (by rw [hsz]; exact flat_len hor) (.inr ⟨_, rfl, fun j c hj => own_cells (pre := []) (mid := os.flatten) (post := post0) (by simpa using hh0) j hj⟩)
            (.inr ⟨g, e0, post0, rfl, hh0, by rw [hsz]; exact hs0, hcm0⟩) (fun h => by cases h)
            hyv hcl' hnews hone hpos hlen
          refine ⟨v, w', ok_append_run ho hrun, ?_⟩
          rcases hA with ⟨rfl, hv, hn, hm⟩ | ⟨e', cap', post, hg, hv, hh, hc, hs, hcm⟩ | ⟨g', e', cap', c', post, hm, hb, hbut, hv, hh, hc, hs, hcm⟩
          · have : add = [] := List.eq_nil_of_length_eq_zero hm
            subst this
            exact ⟨Nat.le_refl _, rfl, rfl, rfl, fun _ _ _ => rfl, hbase, .inr ⟨g, e0, cap, os, post0, by rw [hv, hxv, hβ]; simp [castD], .inr ⟨d, rfl, hbd⟩, hh0, by simpa [castD] using hor', by simpa [castD] using hc0, hs0, hcm0⟩⟩
          · exact ⟨hg.size, hg.os, hg.tape, hg.output, fun k hk _ => hg.heap k hk, hbase, .inr ⟨_, e', cap', os ++ css, post, by rw [hv]; simp [castD], .inl (Nat.le_refl _), by simpa using hh, All2.append hor' hcr, by simpa [castD] using hc, by rw [← hsz]; simpa [Nat.add_assoc] using hs, hcm⟩⟩
          · obtain ⟨rfl, rfl⟩ : g = g' ∧ cap = cap' := by rw [hxv, hβ] at hb; simp at hb; exact hb
            exact ⟨hbut.size, hbut.os, hbut.tape, hbut.output, fun k hk hk2 => hbut.heap k hk fun e => hk2 d rfl (by rw [hbd, e]), hbase, .inr ⟨g, e', cap, os ++ css, post, by rw [hv]; simp [castD], .inr ⟨d, rfl, hbd⟩, by simpa using hh, All2.append hor' hcr, by simpa [castD] using hc, by rw [← hsz]; simpa [Nat.add_assoc] using hs, hcm⟩⟩
      · trivial
    · trivial
  · trivial
end Go.Proofs.Yteidggfjcanbjaa.E
