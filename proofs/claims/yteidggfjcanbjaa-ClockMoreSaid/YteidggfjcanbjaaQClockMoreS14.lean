/- Calls, by what is known of the functions; then each operation. -/
import Derived.Test.YteidggfjcanbjaaQClockMoreS13
namespace Go.Proofs.Yteidggfjcanbjaa.E
open Go Go.RowKit
set_option linter.unusedVariables false
set_option linter.unusedSimpArgs false

variable {P : Program} {X : Nat → Prop} {F : Root} {w0 : World} {n : Nat} {G : Gh} {st : St} {a : Act} {w : World} {o : Oper}

abbrev Glob := Nat → Option (IntKind × List Int)
def LaidG (gl : Glob) (w : World) : Prop := ∀ g k l, gl g = some (k, l) → ∃ (e : TypeId) (cs : List Value) (fr : Nat × Nat), w.heap[g]? = some (.cells cs.toArray e fr) ∧ cs = l.map (Value.int k)
def Entered (P : Program) (f : FuncId) : Prop := ∃ fn, P.funcs[f]? = some fn ∧ fn.body.isNone = false ∧ (fn.name == "runtime.NumGoroutine") = false
/-- What is known of a function: its answers are the evaluator's. -/
def Ctr (P : Program) (gl : Glob) (f : FuncId) : FnE → Prop
  | .plain args res tup F => Entered P f ∧ ∀ (X : Nat → Prop) (x : args.D) (r : res.D) (w : World) (vs : List Value), LaidG gl w → (∀ g v, gl g = some v → ¬ X g) → (∀ g, X g → g < w.heap.size) → ArgsR w X args x vs → F x r →
      Calls P f vs.toArray w fun e w' => ∃ v, e = .returned v ∧ Grows w w' ∧ OutR w' X tup res r v
  | .own args ty F => Entered P f ∧ ∀ (X : Nat → Prop) (x : args.D) (r : List ty.D) (w : World) (vs : List Value), LaidG gl w → (∀ g v, gl g = some v → ¬ X g) → (∀ g, X g → g < w.heap.size) → ArgsR w X args x vs → F x r →
      Calls P f vs.toArray w fun e w' => ∃ v, e = .returned v ∧ Grows w w' ∧ NewRow w w' X ty r v
  | .ioRow ty args res F => Entered P f ∧ ty.hasLst = false ∧ ∀ (X : Nat → Prop) (l : List ty.D) (x : args.D) (r : res.D × List ty.D) (w : World) (vs : List Value) (g : Nat) (e : TypeId) (cap : Nat) (pre post : List Value) (css : List (List Value)),
      LaidG gl w → (∀ b v, gl b = some v → ¬ (X b ∨ b = g)) → (∀ b, X b → b < w.heap.size) → ¬ X g → 0 < List.length l → List.length l ≤ cap →
      w.heap[g]? = some (.cells (pre ++ css.flatten ++ post).toArray e (0, 0)) → All2 (R w (fun b => X b ∨ b = g) ty) l css → ArgsR w (fun b => X b ∨ b = g) args x vs → F l x r →
      Calls P f (.slice (some ⟨g, pre.length, none⟩) (List.length l) cap :: vs).toArray w fun en w' => ∃ v, en = .returned v ∧ But g w w' ∧ List.length r.2 = List.length l ∧
        (∃ (e' : TypeId) (css' : List (List Value)), w'.heap[g]? = some (.cells (pre ++ css'.flatten ++ post).toArray e' (0, 0)) ∧ All2 (R w' (fun b => X b ∨ b = g) ty) r.2 css') ∧ OutIO w' X res r.1 v
  | .ioBox ty args res F => Entered P f ∧ ty.hasLst = false ∧ ∀ (X : Nat → Prop) (y : ty.D) (x : args.D) (r : res.D × ty.D) (w : World) (vs : List Value) (g : Nat) (e : TypeId) (pre post : List Value) (c : Value),
      LaidG gl w → (∀ b v, gl b = some v → ¬ (X b ∨ b = g)) → (∀ b, X b → b < w.heap.size) → ¬ X g → c.oneCell' = true →
      w.heap[g]? = some (.cells (pre ++ [c] ++ post).toArray e (0, 0)) → VR w (fun b => X b ∨ b = g) ty y c → ArgsR w (fun b => X b ∨ b = g) args x vs → F y x r →
      Calls P f (.pointer (some ⟨g, pre.length, none⟩) :: vs).toArray w fun en w' => ∃ v, en = .returned v ∧ But g w w' ∧
        (∃ (e' : TypeId) (c' : Value), w'.heap[g]? = some (.cells (pre ++ [c'] ++ post).toArray e' (0, 0)) ∧ c'.oneCell' = true ∧ VR w' (fun b => X b ∨ b = g) ty r.2 c') ∧ OutIO w' X res r.1 v
theorem enters {c : Call} (ho : o.op = .call c) {f : FuncId} (hc : c.callee = .value (.func f)) (hf : Entered P f) {Post : Value → World → Prop}
    (h : Calls P f (c.args.map a.eval) w fun e w' => ∃ v, e = .returned v ∧ Post v w') : Enters P o a w Post := by
  obtain ⟨fn, h1, h2, h3⟩ := hf
  refine ⟨f, _, ?_, h⟩
  have hev : a.eval (.func f) = .func (.func f) #[] #[] := rfl
  simp only [execOp, ho, resolve, hc, hev, Deferred.ofValue, Sem.run_bind, Sem.run_pure, Result.andThen, invoke, callFunc]
  simp [h1, h2, h3]
theorem TupR_flat {w w' : World} {own own' : Nat → Prop} : ∀ {ty : Ty} {x : ty.D} {vs : List Value}, ty.hasLst = false → TupR w own ty x vs → TupR w' own' ty x vs
  | .nil, _, _, _, h => h
  | .pair a b, _, _, hl, h => by
    simp only [Ty.hasLst, Bool.or_eq_false_iff] at hl
    simp only [TupR] at h ⊢; obtain ⟨v, r, rfl, h1, h2⟩ := h; exact ⟨v, r, rfl, VR_flat hl.1 h1, TupR_flat hl.2 h2⟩
  | .int _, _, _, hl, h => by simp only [TupR] at h ⊢; obtain ⟨v, rfl, h⟩ := h; exact ⟨v, rfl, VR_flat hl h⟩
  | .bool, _, _, hl, h => by simp only [TupR] at h ⊢; obtain ⟨v, rfl, h⟩ := h; exact ⟨v, rfl, VR_flat hl h⟩
  | .str, _, _, hl, h => by simp only [TupR] at h ⊢; obtain ⟨v, rfl, h⟩ := h; exact ⟨v, rfl, VR_flat hl h⟩
  | .any, _, _, hl, h => by simp only [TupR] at h ⊢; obtain ⟨v, rfl, h⟩ := h; exact ⟨v, rfl, VR_flat hl h⟩
  | .lst _, _, _, hl, h => by simp [Ty.hasLst] at hl
  | .agg _, _, _, hl, h => by simp only [TupR] at h ⊢; obtain ⟨v, rfl, h⟩ := h; exact ⟨v, rfl, VR_flat hl h⟩
theorem OutR_flat {w w' : World} {own own' : Nat → Prop} {tup : Bool} {ty : Ty} {x : ty.D} {v : Value} (hl : ty.hasLst = false) (h : OutR w own tup ty x v) : OutR w' own' tup ty x v := by
  cases tup
  · exact VR_flat hl h
  · obtain ⟨vs, rfl, h⟩ := h; exact ⟨vs, rfl, TupR_flat hl h⟩
theorem looks_LR (E : EnvR X F w0 n G st a w) (x : Operand) : LR w (Own X G.β st.m) G st.m (st.look x) (a.eval x) := look_LR E x
theorem own_lt (E : EnvR X F w0 n G st a w) {g : Nat} (h : Own X G.β st.m g) : g < w.heap.size := by
  rcases h with h | ⟨d, h⟩
  · exact Nat.lt_of_lt_of_le (E.xlt g h) E.grown
  · exact blk_lt (E.mems d) h
theorem map_map_fst (st : St) (l : List Operand) : (l.map fun x => (st.look x).1) = (l.map st.look).map (·.1) := by simp
theorem ok_plain (E : EnvR X F w0 n G st a w) {c : Call} (ho : o.op = .call c) {f : FuncId} (hc : c.callee = .value (.func f)) {gl : Glob} {args res : Ty} {tup : Bool} {Fn : args.D → M res.D} (hf : Ctr P gl f (.plain args res tup Fn))
    (hL : LaidG gl w) (hg : ∀ g v, gl g = some v → ¬ Own X G.β st.m g) {x : args.D} (hx : asArgs st.look c.args.toList args = some x) :
    OpOK P X G st o a w (.call res tup (Fn x) (bif res.hasLst then rowsOf (c.args.toList.map fun x => (st.look x).1) else [])) := by
  intro r hr
  obtain ⟨he, hf⟩ := hf
  obtain ⟨E1, hsub, hfree⟩ := E.kill (rowsOf (c.args.toList.map fun x => (st.look x).1))
  have hsub' : ∀ g, Own X G.β (st.kill (rowsOf (c.args.toList.map fun x => (st.look x).1))).m g → Own X G.β st.m g := fun g h => Own_kill hsub h
  have ha := asArgs_R E.mems (look_LR E) hsub' c.args.toList hx hfree
  have hcall := hf _ x r w _ hL (fun g v h k => hg g v h (hsub' g k)) (fun g h => own_lt E (hsub' g h)) ha hr
  refine enters ho hc he ?_
  have hargs : c.args.map a.eval = (c.args.toList.map a.eval).toArray := args_list rfl
  rw [hargs]
  refine hcall.mono fun e w' ⟨v, h1, h2, h3⟩ => ⟨v, h1, h2, ?_⟩
  cases hh : res.hasLst
  · exact OutR_flat hh h3
  · exact h3
theorem ok_own (E : EnvR X F w0 n G st a w) {c : Call} (ho : o.op = .call c) {f : FuncId} (hc : c.callee = .value (.func f)) {gl : Glob} {args ty : Ty} {Fn : args.D → M (List ty.D)} (hf : Ctr P gl f (.own args ty Fn))
    (hL : LaidG gl w) (hg : ∀ g v, gl g = some v → ¬ Own X G.β st.m g) {x : args.D} (hx : asArgs st.look c.args.toList args = some x) (hr : rowsOf (c.args.toList.map fun x => (st.look x).1) = []) :
    OpOK P X G st o a w (.callOwn ty (Fn x)) := by
  intro r hrr
  obtain ⟨he, hf⟩ := hf
  have ha := asArgs_R (own' := Own X G.β st.m) E.mems (look_LR E) (fun _ h => h) c.args.toList hx (by rw [hr]; intro d hd; cases hd)
  have hcall := hf _ x r w _ hL hg (fun g h => own_lt E h) ha hrr
  refine enters ho hc he ?_
  have hargs : c.args.map a.eval = (c.args.toList.map a.eval).toArray := args_list rfl
  rw [hargs]
  exact hcall
theorem asOne_none {own : Nat → Prop} {β : Nat → Value} {m : Nat → MB} {v : AV} {c : Value} {ty : Ty} {y : ty.D} (h : AR w own β m v c) (hy : asOne v .none ty = some y) : VR w own ty y c := by
  unfold asOne at hy
  split at hy
  · exact coD_VR hy h
  · split at hy
    · obtain rfl := Option.some.inj hy
      simp only [AR] at h; subst h
      exact VR_cell (by simp [R]) (by simp) (by simp)
    · cases hy
  · cases ty <;> simp at hy
  · cases ty <;> simp at hy
  · cases hy
theorem asOne_row {x : AV} {b : MB} {ty : Ty} {y : ty.D} (hy : asOne x b ty = some y) {d : Nat} (hd : d ∈ rowsOf [x]) : (x = .row d ∨ ∃ off n, x = .view d off n) ∧ ∃ app t l, b = .own app t l := by
  unfold asOne at hy
  split at hy
  · simp [rowsOf] at hd
  · simp [rowsOf] at hd
  · simp [rowsOf] at hd; subst hd
    split at hy
    · exact ⟨.inl rfl, _, _, _, rfl⟩
    · cases hy
  · simp [rowsOf] at hd; subst hd
    split at hy
    · exact ⟨.inr ⟨_, _, rfl⟩, _, _, _, rfl⟩
    · cases hy
  · cases hy
theorem rowsOf_head (x : AV) (l : List AV) {d : Nat} (h : d ∈ rowsOf (x :: l)) : d ∈ rowsOf [x] ∨ d ∈ rowsOf l := by
  cases x <;> simp [rowsOf] at h ⊢ <;> exact h
theorem rows_own (E : EnvR X F w0 n G st a w) : ∀ (l : List Operand) {ty : Ty} {y : ty.D}, asArgs st.look l ty = some y → ∀ d ∈ rowsOf (l.map fun x => (st.look x).1), ∃ app t l, st.m d = .own app t l
  | [], _, _, _, d, hd => by cases hd
  | [x], ty, y, hy, d, hd => by
    unfold asArgs at hy
    split at hy
    · cases hy
    · obtain ⟨h1, app, t, l, h2⟩ := asOne_row hy hd
      have L := (look_LR E x).2
      rcases h1 with h1 | ⟨_, _, h1⟩ <;> rw [h1] at L <;> simp only at L <;> exact ⟨app, t, l, by rw [← L]; exact h2⟩
  | x :: z :: r, ty, y, hy, d, hd => by
    unfold asArgs at hy
    cases ty <;> first | (cases hy; done) | skip
    simp only at hy
    split at hy
    · rename_i u v e1 e2
      rcases rowsOf_head _ _ hd with hd | hd
      · obtain ⟨h1, app, t, l, h2⟩ := asOne_row e1 hd
        have L := (look_LR E x).2
        rcases h1 with h1 | ⟨_, _, h1⟩ <;> rw [h1] at L <;> simp only at L <;> exact ⟨app, t, l, by rw [← L]; exact h2⟩
      · exact rows_own E (z :: r) e2 d hd
    · cases hy
/-- What a function may not touch that is handed block g to write on. -/
def But1 (own : Nat → Prop) (g : Nat) : Nat → Prop := fun b => own b ∧ b ≠ g
theorem io_args (E : EnvR X F w0 n G st a w) {gl : Glob} (hg : ∀ g v, gl g = some v → ¬ Own X G.β st.m g) {d g : Nat} (hbd : blk G.β st.m d = some g) {xs : List Operand} {args : Ty} {x : args.D} (hx : asArgs st.look xs args = some x)
    (hd : d ∉ rowsOf (xs.map fun x => (st.look x).1)) : ∃ own : Nat → Prop, (∀ b v, gl b = some v → ¬ (own b ∨ b = g)) ∧ (∀ b, own b → b < w.heap.size) ∧ ¬ own g ∧ ArgsR w (fun b => own b ∨ b = g) args x (xs.map a.eval) := by
  obtain ⟨E1, hsub, hfree⟩ := E.kill (rowsOf (xs.map fun x => (st.look x).1))
  have hog : Own X G.β st.m g := .inr ⟨d, hbd⟩
  refine ⟨But1 (Own X G.β (st.kill (rowsOf (xs.map fun x => (st.look x).1))).m) g, fun b v h k => ?_, fun b h => own_lt E (Own_kill hsub h.1), fun h => h.2 rfl, ?_⟩
  · rcases k with k | rfl
    · exact hg b v h (Own_kill hsub k.1)
    · exact hg _ v h hog
  · refine asArgs_R E.mems (look_LR E) (fun b h => ?_) xs hx fun e he b hb h => ?_
    · rcases h with h | rfl
      · exact Own_kill hsub h.1
      · exact hog
    · rcases h with h | rfl
      · exact hfree e he b hb h.1
      · exact hd (by rw [← E.disj e d _ hb hbd]; exact he)
theorem But.agree {g : Nat} {own : Nat → Prop} {w w' : World} (h : But g w w') (hg : own g) : Agree w w' own own := ⟨fun k hk ho => h.heap k hk fun e => ho (e ▸ hg), fun _ _ h => h⟩
theorem ok_ioBox (E : EnvR X F w0 n G st a w) {c : Call} (ho : o.op = .call c) {f : FuncId} (hc : c.callee = .value (.func f)) {gl : Glob} {ty args res : Ty} {Fn : ty.D → args.D → M (res.D × ty.D)} (hf : Ctr P gl f (.ioBox ty args res Fn))
    (hL : LaidG gl w) (hg : ∀ g v, gl g = some v → ¬ Own X G.β st.m g) {x0 : Operand} {xs : List Operand} (hargs : c.args.toList = x0 :: xs) {x : args.D} (hx : asArgs st.look xs args = some x) (hres : res.hasLst = false)
    {d off : Nat} {l : List AV} (h1 : (st.look x0).1 = .ptr d off) (h2 : (st.look x0).2 = .box l) {v : AV} (hv : l[off]? = some v) {y : ty.D} (hy : asOne v .none ty = some y) :
    OpOK P X G st o a w (.callBox ty res (Fn y x) d off l) := by
  refine ⟨hres, fun r hr => ?_⟩
  obtain ⟨he, hflat, hf⟩ := hf
  have L := look_LR E x0
  obtain ⟨L1, L2⟩ := L
  rw [h1] at L1 L2
  simp only at L2
  have hm : st.m d = .box l := by rw [← L2]; exact h2
  have hM := E.mems d
  unfold MR at hM; rw [hm] at hM; simp only at hM
  obtain ⟨g, e, cs, hβ, hh, hcs, hone⟩ := hM
  simp only [AR, hm] at L1
  obtain ⟨ad, hb, _, hxv⟩ := L1
  obtain rfl : (⟨g, (G.π d).1.length, none⟩ : Addr) = ad := by rw [hβ] at hb; simpa using hb
  have hbd : blk G.β st.m d = some g := by rw [blk_box hm, hβ]; rfl
  have hog : Own X G.β st.m g := .inr ⟨d, hbd⟩
  obtain ⟨c0, hc0, hvc⟩ := All2.get off hcs hv
  have hlt : off < cs.length := (List.getElem?_eq_some_iff.1 hc0).1
  have hsplit : cs = cs.take off ++ [c0] ++ cs.drop (off + 1) := by
    have : cs[off] = c0 := (List.getElem?_eq_some_iff.1 hc0).2
    rw [List.append_assoc, ← this]; simp
  have hnot : d ∉ rowsOf (xs.map fun x => (st.look x).1) := by
    intro hd
    obtain ⟨app, t, l', h⟩ := rows_own E xs hx d hd
    rw [hm] at h; cases h
  obtain ⟨own, o1, o2, o3, o4⟩ := io_args E hg hbd hx hnot
  have hcall := hf own y x r w _ g e ((G.π d).1 ++ cs.take off) (cs.drop (off + 1) ++ (G.π d).2) c0 hL o1 o2 o3 (hone c0 (List.mem_of_getElem? hc0))
    (by rw [hh]; congr 3; conv => lhs; rw [hsplit]
        simp) (VR_flat hflat (asOne_none hvc hy)) o4 hr
  refine enters ho hc he ?_
  rw [args_list hargs, List.map_cons, hxv, add_at]
  have hpl : ((G.π d).1 ++ cs.take off).length = (G.π d).1.length + off := by simp; omega
  rw [hpl] at hcall
  refine hcall.mono fun en w' ⟨v', e1, hbut, ⟨e', c', hh', hone', hvr⟩, hout⟩ => ⟨v', e1, ⟨⟨l, hm⟩, g, e', cs.set off c', hβ, hbut, ?_, ?_, ?_⟩, hout.imp id (VR_flat hres)⟩
  · rw [hh']
    congr 3
    rw [List.set_eq_take_append_cons_drop, if_pos hlt]
    simp
  · refine All2.set off (hcs.mono fun _ _ h => AR_mono (hbut.agree hog) (fun _ _ => rfl) (fun _ => Later.refl _) h) ?_
    exact VR_flat hflat hvr
  · intro c1 hc1
    rcases List.mem_or_eq_of_mem_set hc1 with h | rfl
    · exact hone c1 h
    · exact hone'
theorem ok_ioRow_piece (E : EnvR X F w0 n G st a w) {c : Call} (ho : o.op = .call c) {f : FuncId} (hc : c.callee = .value (.func f)) {gl : Glob} {ty args res : Ty} {Fn : List ty.D → args.D → M (res.D × List ty.D)} (hf : Ctr P gl f (.ioRow ty args res Fn))
    (hL : LaidG gl w) (hg : ∀ g v, gl g = some v → ¬ Own X G.β st.m g) {x0 : Operand} {xs : List Operand} (hargs : c.args.toList = x0 :: xs) {x : args.D} (hx : asArgs st.look xs args = some x) (hres : res.hasLst = false)
    {d off k : Nat} {app : Bool} {l : List ty.D} (hm : st.m d = .own app ty l) (hnot : d ∉ rowsOf (xs.map fun x => (st.look x).1)) {cap : Nat} (hv : a.eval x0 = .slice ((headOf (G.β d)).map (·.add (off * ty.n))) k cap) (hk : 0 < k) (hkc : k ≤ cap) (hle : off + k ≤ List.length l)
    {fr : List ty.D → List ty.D} (hfr : ∀ q : List ty.D, List.length q = k → fr q = l.take off ++ q ++ l.drop (off + k)) :
    OpOK P X G st o a w (.callRow ty res (Fn ((l.drop off).take k) x) d app fr) := by
  refine ⟨hres, fun r hr => ?_⟩
  obtain ⟨he, hflat, hf⟩ := hf
  have hM := E.mems d
  unfold MR at hM; rw [hm] at hM; simp only at hM
  rcases hM with ⟨_, rfl, _⟩ | ⟨g, e, cap0, css, post, hβ, hh, hcs, hc0, happ⟩
  · simp at hle; omega
  have hbd : blk G.β st.m d = some g := by rw [blk_row hm, hβ]; rfl
  have hog : Own X G.β st.m g := .inr ⟨d, hbd⟩
  have hlens := All2_lens hcs
  have hclen := All2.length hcs
  obtain ⟨own, o1, o2, o3, o4⟩ := io_args E hg hbd hx hnot
  have hlen : List.length ((l.drop off).take k) = k := by simp; omega
  have hcut : css = css.take off ++ ((css.drop off).take k ++ css.drop (off + k)) := by
    rw [← List.drop_drop, List.take_append_drop, List.take_append_drop]
  have hpre : ((G.π d).1 ++ (css.take off).flatten).length = (G.π d).1.length + off * ty.n := by
    have := flat_len (All2.take off hcs)
    rw [List.length_append, this, List.length_take, Nat.min_eq_left (by omega)]
  have hcall := hf own ((l.drop off).take k) x r w _ g e cap ((G.π d).1 ++ (css.take off).flatten) ((css.drop (off + k)).flatten ++ post) ((css.drop off).take k) hL o1 o2 o3 (by rw [hlen]; exact hk) (by rw [hlen]; exact hkc)
    (by rw [hh]; congr 3; conv => lhs; rw [hcut]
        simp) ((All2.take k (All2.drop off hcs)).mono fun _ _ h => R_flat hflat h) o4 hr
  refine enters ho hc he ?_
  rw [args_list hargs, List.map_cons, hv, hβ]
  simp only [headOf, Option.map_some, add_at]
  rw [hpre, hlen] at hcall
  refine hcall.mono fun en w' ⟨v', e1, hbut, hrl, ⟨e', css', hh', hrr⟩, hout⟩ => ?_
  have hfl := hfr r.2 hrl
  have hlen2 : List.length (fr r.2) = List.length l := by
    rw [hfl]; simp only [List.length_append, List.length_take, List.length_drop, hrl]; omega
  have hall : All2 (R w' (Own X G.β st.m) ty) (fr r.2) (css.take off ++ css' ++ css.drop (off + k)) := by
    rw [hfl]
    exact All2.append (All2.append ((All2.take off hcs).mono fun _ _ h => R_flat hflat h) (hrr.mono fun _ _ h => R_flat hflat h)) ((All2.drop (off + k) hcs).mono fun _ _ h => R_flat hflat h)
  refine ⟨v', e1, ⟨⟨l, hm, hlen2.symm⟩, g, e', cap0, css.take off ++ css' ++ css.drop (off + k), post, by rw [hlen2]; exact hβ, hbut, ?_, hall, by rw [hlen2]; exact hc0, ?_⟩, hout.imp id (VR_flat hres)⟩
  · rw [hh']
    congr 3
    simp
  · have f1 := flat_len hall
    have f2 := flat_len hcs
    rw [hlen2, ← f2] at f1
    rw [f1]; exact happ
theorem memN0_spec {l r : List Nat} (h : memN0 l r = false) : ∃ d, l = [d] ∧ d ∉ r := by
  unfold memN0 at h
  split at h
  · rename_i d
    refine ⟨d, rfl, fun hd => ?_⟩
    have : (r.any fun e => Nat.beq d e) = true := List.any_eq_true.2 ⟨d, hd, Nat.beq_refl d⟩
    rw [h] at this; cases this
  · cases h
structure CtxOK (P : Program) (Γ : Ctx) : Prop where
  ty : ∀ T, (Γ.ty T).ok P T
  eq : ∀ T ty, Γ.eq T = some ty → EqOK P T ty
  fn : ∀ f e, Γ.fn f = some e → Ctr P Γ.glob f e
theorem ok_call (E : EnvR X F w0 n G st a w) {c : Call} (ho : o.op = .call c) {Γ : Ctx} (hΓ : CtxOK P Γ) (hL : LaidG Γ.glob w) (hg : ∀ g v, Γ.glob g = some v → ¬ Own X G.β st.m g) : OpOK P X G st o a w (evCall Γ c st.look) := by
  unfold evCall
  split
  · rename_i b hc
    split
    · rename_i x hx
      split
      · rename_i t ht
        have hT := hΓ.ty t
        split
        · rename_i e ty size bytes hti
          rw [hti] at hT
          have L := look_LR E x
          obtain ⟨L1, L2⟩ := L
          split
          · rename_i mb ty' l h1
            obtain ⟨l, rfl⟩ : ∃ l' : List ty'.D, l' = l := ⟨l, rfl⟩
            have hv := VR_lst (look_t E h1)
            simp only [R] at hv
            obtain ⟨ao, cap, hv, _⟩ := hv
            have hv : a.eval x = .slice ao (List.length l) cap := by simpa using hv
            exact ok_len E ho hc hx ht (by rw [hv]; exact run_len_row hT.1 _ _ _ _ w) (int_VR _ _ _ _)
          · rename_i mb u h1
            have hv := VR_nil (look_t E h1)
            exact ok_len E ho hc hx ht (by rw [hv]; exact run_len_row hT.1 _ _ _ _ w) (int_VR _ _ _ _)
          · rename_i d app ty' l h1 h2
            obtain ⟨l, rfl⟩ : ∃ l' : List ty'.D, l' = l := ⟨l, rfl⟩
            rw [h1] at L1 L2
            simp only at L2
            have hm : st.m d = .own app ty' l := by rw [← L2]; exact h2
            simp only [AR, hm] at L1
            obtain ⟨ao, cap, hβ, _⟩ := MR_head (E.mems d) hm
            exact ok_len E ho hc hx ht (by rw [L1, hβ]; exact run_len_row hT.1 _ _ _ _ w) (int_VR _ _ _ _)
          · rename_i d off k app ty' l h1 h2
            rw [h1] at L1 L2
            simp only at L2
            have hm : st.m d = .own app ty' l := by rw [← L2]; exact h2
            simp only [AR, hm] at L1
            obtain ⟨_, cap, _, hv⟩ := L1
            exact ok_len E ho hc hx ht (by rw [hv]; exact run_len_row hT.1 _ _ _ _ w) (int_VR _ _ _ _)
          · trivial
        · rename_i hti
          rw [hti] at hT
          split
          · rename_i s h1
            obtain ⟨s, rfl⟩ : ∃ s' : ByteArray, s' = s := ⟨s, rfl⟩
            have hv := VR_str (look_t E h1)
            exact ok_len E ho hc hx ht (by rw [hv]; exact run_len_str hT.1 _ _ w) (int_VR _ _ _ _)
          · trivial
        · trivial
      · trivial
    · rename_i x r hx
      split
      · rename_i k i h1
        obtain ⟨i, rfl⟩ : ∃ i' : Int, i' = i := ⟨i, rfl⟩
        split
        · rename_i v h2
          have := foldI_max (P := P) (a := a) w (st := st.look) (fun z _ j i h => look_int E h) h2
          refine put_ok (ok_builtin ho hc (s := Builtin.max_ c.argTypes o.type (c.args.map a.eval)) (fun _ => rfl) ?_) (int_VR _ _ _ _)
          rw [args_list hx]
          simp only [Builtin.max_, List.map_cons, look_int E h1]
          exact this
        · trivial
      · trivial
    · rename_i x r hx
      split
      · rename_i k i h1
        obtain ⟨i, rfl⟩ : ∃ i' : Int, i' = i := ⟨i, rfl⟩
        split
        · rename_i v h2
          have := foldI_min (P := P) (a := a) w (st := st.look) (fun z _ j i h => look_int E h) h2
          refine put_ok (ok_builtin ho hc (s := Builtin.min_ c.argTypes o.type (c.args.map a.eval)) (fun _ => rfl) ?_) (int_VR _ _ _ _)
          rw [args_list hx]
          simp only [Builtin.min_, List.map_cons, look_int E h1]
          exact this
        · trivial
      · trivial
    · rename_i x y hx
      split
      · rename_i t u ht
        split
        · rename_i e ty size bytes htu hti
          obtain rfl := Nat.eq_of_beq_eq_true htu
          have hT := hΓ.ty t
          rw [hti] at hT
          obtain ⟨t1, _, i, z, t2, t3, t4, t5, t6⟩ := hT
          split
          · rename_i add hadd
            have hc' : c = { callee := .builtin .append, args := #[x, y], argTypes := #[t, t] } := by
              cases c
              simp only at hc hx ht
              rw [hc]
              congr 1 <;> apply Array.ext' <;> assumption
            exact ok_evAppend E (by rw [ho, hc']) t1 t2 t3 t4 t5 t6 hadd
          · trivial
        · trivial
      · trivial
    · trivial
  · rename_i f hc
    split
    · rename_i args res tup Fn hfn
      split
      · rename_i x hx
        exact ok_plain E ho hc (hΓ.fn _ _ hfn) hL hg hx
      · trivial
    · rename_i args ty Fn hfn
      split
      · rename_i x hx hr
        exact ok_own E ho hc (hΓ.fn _ _ hfn) hL hg hx hr
      · trivial
    · rename_i ty args res Fn hfn
      split
      · rename_i x0 xs hargs
        split
        · rename_i x hx hmem hres
          obtain ⟨d0, hd0, hnot⟩ := memN0_spec hmem
          have L := look_LR E x0
          obtain ⟨L1, L2⟩ := L
          split
          · rename_i d app t l h1 h2
            split
            · rename_i het
              subst het
              intro hpos
              replace hpos : 0 < List.length l := hpos
              rw [h1] at L1 L2 hd0
              simp only at L2
              have hm : st.m d = .own app t l := by rw [← L2]; exact h2
              obtain rfl : d = d0 := by simpa [rowsOf] using hd0
              simp only [AR, hm] at L1
              obtain ⟨ao, cap, hβ, hcap⟩ := MR_head (E.mems d) hm
              have := ok_ioRow_piece E ho hc (hΓ.fn _ _ hfn) hL hg hargs hx hres hm hnot (off := 0) (k := List.length l) (cap := cap)
                (by rw [L1, hβ]; simp [headOf, add_zero]) hpos hcap (by omega) (fr := fun c => c) (fun q hq => by simp)
              rw [show (List.drop 0 l).take (List.length l) = l by simp] at this
              exact this
            · trivial
          · rename_i d off k app t l h1 h2
            split
            · rename_i het
              subst het
              intro hpos
              replace hpos : 0 < k := hpos
              rw [h1] at L1 L2 hd0
              simp only at L2
              have hm : st.m d = .own app t l := by rw [← L2]; exact h2
              obtain rfl : d = d0 := by simpa [rowsOf] using hd0
              simp only [AR, hm] at L1
              obtain ⟨hle, cap, hcap, hv⟩ := L1
              exact ok_ioRow_piece E ho hc (hΓ.fn _ _ hfn) hL hg hargs hx hres hm hnot hv hpos hcap hle (fun q hq => rfl)
            · trivial
          · trivial
        · trivial
      · trivial
    · rename_i ty args res Fn hfn
      split
      · rename_i x0 xs hargs
        split
        · rename_i x hx hres
          split
          · rename_i d off l h1 h2
            split
            · rename_i v hv
              split
              · rename_i y hy
                exact ok_ioBox E ho hc (hΓ.fn _ _ hfn) hL hg hargs hx hres h1 h2 hv hy
              · trivial
            · trivial
          · trivial
        · trivial
      · trivial
    · trivial
  · trivial
theorem evOp_ok (E : EnvR X F w0 n G st a w) {Γ : Ctx} (hΓ : CtxOK P Γ) (hL : LaidG Γ.glob w) (hg : ∀ g v, Γ.glob g = some v → ¬ Own X G.β st.m g) : OpOK P X G st o a w (evOp Γ o st.look) := by
  have key : ∀ op, o.op = op → OpOK P X G st o a w (evOp Γ o st.look) := by
    intro op ho
    cases op
    case move x => have := ok_move (P := P) E (.inl ho); unfold evOp; rw [ho]; exact this
    case assign x => have := ok_move (P := P) E (.inr ho); unfold evOp; rw [ho]; exact this
    case pick c x y => exact ok_pick E ho Γ
    case alloc T => exact ok_alloc E ho (hΓ.ty T)
    case nilCheck x => exact ok_nilCheck E ho
    case box T x => exact ok_box E ho
    case fieldAddr T x k => exact ok_fieldAddr E ho (hΓ.ty T)
    case load T x => exact ok_load E ho (hΓ.ty T)
    case store T x y => exact ok_store E ho (hΓ.ty T)
    case indexAddr T x i => exact ok_indexAddr E ho (hΓ.ty T) hL hg
    case index T x i => exact ok_index E ho (hΓ.ty T)
    case makeSlice T x y => exact ok_makeSlice E ho (hΓ.ty T)
    case build T parts => exact ok_build E ho (hΓ.ty T)
    case buildSlice T k parts => exact ok_buildSlice E ho (hΓ.ty T)
    case slice T x lo hi mx => exact ok_slice E ho (hΓ.ty T)
    case extract x i => exact ok_extract E ho Γ
    case convert S T x => exact ok_convert E ho hΓ.ty
    case binOp op T x y U => exact ok_bin E ho (hΓ.ty T) (hΓ.eq T)
    case unOp op T x => exact ok_un E ho Γ
    case call c => have := ok_call E ho hΓ hL hg; unfold evOp; rw [ho]; exact this
    all_goals (unfold evOp; rw [ho]; trivial)
  exact key _ rfl
end Go.Proofs.Yteidggfjcanbjaa.E
