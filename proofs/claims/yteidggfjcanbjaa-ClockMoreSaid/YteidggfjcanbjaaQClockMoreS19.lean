/- Functions: their answers are the evaluator's. -/
import Derived.Test.YteidggfjcanbjaaQClockMoreS18
namespace Go.Proofs.Yteidggfjcanbjaa.E
open Go Go.RowKit
set_option linter.unusedVariables false
set_option linter.unusedSimpArgs false

variable {P : Program} {X : Nat → Prop} {F : Root} {w0 : World} {n : Nat} {G : Gh} {st : St} {a : Act} {w : World} {o : Oper}

/-! ### What is handed back -/
theorem aggOf_LR {own : Nat → Prop} {G : Gh} {m : Nat → MB} {l : List AV} {v : Value} (h : AR w own G.β m (aggOf l) v) : LR w own G m (aggOf l, .none) v := by
  refine ⟨h, ?_⟩
  have h2 : aggOf l = .dead ∨ ∃ t y, aggOf l = .t (.agg t) y := by
    unfold aggOf
    split
    · exact .inr ⟨_, _, rfl⟩
    · exact .inl rfl
  rcases h2 with h2 | ⟨t, y, h2⟩ <;> rw [h2]
theorem dead_LR {own : Nat → Prop} {G : Gh} {m : Nat → MB} {v : Value} : LR w own G m (.dead, .none) v := ⟨trivial, rfl⟩
def resVal (P : Program) (tmps : Array Value) (w : World) : ResultVar → Value → Prop
  | .tmp t, v => v = tmps.getD t undef
  | .cell a T, v => (Instr.loadAt T (tmps.getD a undef)).run P w = .ok v w
theorem resAV_ok (E : EnvR X F w0 n G st a w) {Γ : Ctx} (ht : ∀ T, (Γ.ty T).ok P T) (rv : ResultVar) {ty : Ty} {y : ty.D} (hy : asOne (resAV Γ st rv).1 (resAV Γ st rv).2 ty = some y) :
    ∃ v, (match rv with | .tmp t => v = a.tmps.getD t undef | .cell b T => ∃ ad, a.tmps.getD b undef = .pointer (some ad) ∧ (loadVar T ad).run P w = .ok v w) ∧ LR w (Own X G.β st.m) G st.m (resAV Γ st rv) v := by
  cases rv with
  | tmp t => exact ⟨_, rfl, look_LR E (.tmp t)⟩
  | cell b T =>
    simp only [resAV] at hy ⊢
    cases h1 : (st.look (.tmp b)) with
    | mk x mb =>
    rw [h1] at hy
    cases x <;> (try simp only at hy) <;> first | (simp [asOne] at hy; done) | skip
    rename_i d off
    cases mb <;> (try simp only at hy) <;> first | (simp [asOne] at hy; done) | skip
    rename_i l
    simp only
    obtain ⟨hm, g, e, cs, hβ, hv, hh, hr, hone⟩ := box_at E (x := .tmp b) (d := d) (off := off) (l := l) (by rw [h1]) (by rw [h1])
    have hcell : ∀ (j : Nat) (c : Value), cs[off + j]? = some c → w.cell? ((Addr.add ⟨g, (G.π d).1.length, none⟩ off).add j) = some c := by
      intro j c hj
      rw [add_add]; exact own_cells hh (off + j) hj
    have hlen := hr.length
    have hT := ht T
    split at hy
    · rename_i fs size z hti
      cases hle : Nat.ble (off + size) l.length with
      | false => rw [hle] at hy; simp [asOne] at hy
      | true =>
        simp only
        have hle' : off + size ≤ l.length := Nat.le_of_ble_eq_true hle
        rw [hti] at hT
        obtain ⟨fs', i, z', t1, t2, t3, _⟩ := hT
        have hrun := run_load_agg t1 t2 (w := w) (ad := Addr.add ⟨g, (G.π d).1.length, none⟩ off) (cs := (cs.drop off).take size) (by simp; omega) (by
          intro j c hj
          rw [List.getElem?_take] at hj
          split at hj
          · exact hcell j c (by simpa using hj)
          · cases hj)
        refine ⟨_, ⟨_, hv, by simpa [Instr.loadAt, Instr.sureAddr] using hrun⟩, aggOf_LR ?_⟩
        unfold part
        exact aggOf_AR (All2.take size (All2.drop off hr)) fun c hc => hone c (List.mem_of_mem_drop (List.mem_of_mem_take hc))
    · rename_i hns
      cases hn : Nat.beq (Γ.ty T).n 1 with
      | false => rw [hn] at hy; simp [asOne] at hy
      | true =>
        cases hl : l[off]? with
        | none => rw [hn, hl] at hy; simp [asOne] at hy
        | some v =>
          obtain ⟨c, hc, hvc⟩ := hr.get off hl
          obtain ⟨⟨d', t1, t2, t3⟩, _⟩ := TI.ok_one hT (Nat.eq_of_beq_eq_true hn) hns
          have hrun := run_load_cell t1 t2 t3 (w := w) (ad := Addr.add ⟨g, (G.π d).1.length, none⟩ off) (c := c) (by have := hcell 0 c (by simpa using hc); rwa [add_zero] at this)
          refine ⟨c, ⟨_, hv, by simpa [Instr.loadAt, Instr.sureAddr] using hrun⟩, ?_⟩
          simp only
          exact at_LR E.mems hvc
def resOne (tm : Array Value) : ResultVar → Sem Value
  | .tmp t => pure (tm.getD t undef)
  | .cell b t => do loadVar t (← asAddr (tm.getD b undef))
theorem results_eq (fn : Func) (tm : Array Value) : results fn tm = (do
    let vs ← fn.results.mapM (resOne tm)
    pure (if h : vs.size = 1 then vs[0] else .tuple vs)) := by
  unfold results
  congr 1
theorem asRes_ok (E : EnvR X F w0 n G st a w) {Γ : Ctx} (ht : ∀ T, (Γ.ty T).ok P T) {own : Nat → Prop} (hsub : ∀ g, own g → Own X G.β st.m g) (hfree : ∀ d g, blk G.β st.m d = some g → ¬ own g) :
    ∀ (rs : List ResultVar) {ty : Ty} {y : ty.D}, asRes Γ st rs ty = some y → ∃ vs : List Value, vs.length = rs.length ∧
      (rs.mapM (resOne a.tmps)).run P w = .ok vs w ∧ TupR w own ty y vs ∧ (rs.length = 1 → ∃ v, vs = [v] ∧ VR w own ty y v)
  | [], ty, y, hy => by
    unfold asRes at hy
    cases ty <;> simp only at hy <;> first | (cases hy; done) | exact ⟨[], rfl, by simp, rfl, fun h => by simp at h⟩
  | [x], ty, y, hy => by
    unfold asRes at hy
    cases hn : ty.isNil with
    | true => rw [hn] at hy; cases hy
    | false =>
      rw [hn] at hy
      simp only at hy
      obtain ⟨v, hv, hL⟩ := resAV_ok E ht x hy
      have hVR := asOne_VR E.mems hL hy hsub (fun d _ g hg => hfree d g hg)
      refine ⟨[v], rfl, ?_, ?_, fun _ => ⟨v, rfl, hVR⟩⟩
      · cases x with
        | tmp t => simp only at hv; simp [hv, resOne]
        | cell b T =>
          obtain ⟨ad, h1, h2⟩ := hv
          simp [resOne, h1, asAddr, h2]
      · have := ArgsR_one hVR (fun e => by subst e; simp [Ty.isNil] at hn) (fun a b e => by subst e; exact hVR.2)
        cases ty <;> first | exact this | (simp [Ty.isNil] at hn; done) | exact hVR.2.elim
  | x :: z :: r, ty, y, hy => by
    unfold asRes at hy
    cases ty <;> simp only at hy <;> first | (cases hy; done) | skip
    split at hy
    · rename_i u v e1 e2
      obtain rfl := Option.some.inj hy
      obtain ⟨vs, h1, h2, h3, h4⟩ := asRes_ok E ht hsub hfree (z :: r) e2
      obtain ⟨v0, hv, hL⟩ := resAV_ok E ht x e1
      have hVR := asOne_VR E.mems hL e1 hsub (fun d _ g hg => hfree d g hg)
      refine ⟨v0 :: vs, by simp [h1], ?_, ⟨v0, vs, rfl, hVR, h3⟩, fun h => by simp at h⟩
      have hx : (resOne a.tmps x).run P w = .ok v0 w := by
        cases x with
        | tmp t => simp only at hv; simp [hv, resOne]
        | cell b T =>
          obtain ⟨ad, p1, p2⟩ := hv
          simp [resOne, p1, asAddr, p2]
      rw [List.mapM_cons]
      simp only [Sem.run_bind, hx, Result.andThen, h2, Sem.run_pure]
    · cases hy
theorem results_ok (E : EnvR X F w0 n G st a w) {Γ : Ctx} (ht : ∀ T, (Γ.ty T).ok P T) {fn : Func} {tup : Bool} (htup : tup = !(Nat.beq fn.results.size 1)) {ty : Ty} {y : ty.D} (hy : asRes Γ st fn.results.toList ty = some y) :
    ∃ v, (results fn a.tmps).run P w = .ok v w ∧ OutR w X tup ty y v := by
  obtain ⟨vs, h1, h2, h3, h4⟩ := asRes_ok E ht (own := X) (fun g h => .inl h) (fun d g h => E.notX d g h) _ hy
  have hr : (results fn a.tmps).run P w = .ok (if h : vs.toArray.size = 1 then vs.toArray[0] else .tuple vs.toArray) w := by
    rw [results_eq, Array.mapM_eq_mapM_toList]
    simp [h2]
  refine ⟨_, hr, ?_⟩
  subst htup
  have hlen : vs.length = fn.results.size := by simpa using h1
  by_cases hs : fn.results.size = 1
  · have hb : Nat.beq fn.results.size 1 = true := by rw [hs]; rfl
    obtain ⟨v, rfl, hv⟩ := h4 (by simpa using hs)
    rw [hb]
    exact hv
  · have hb : Nat.beq fn.results.size 1 = false := by
      cases h : Nat.beq fn.results.size 1
      · rfl
      · exact absurd (Nat.eq_of_beq_eq_true h) hs
    rw [hb]
    refine ⟨vs, ?_, h3⟩
    rw [dif_neg (by simpa [hlen] using hs)]

/-! ### What is handed in -/
def tyLen : Ty → Nat
  | .nil => 0
  | .pair _ b => tyLen b + 1
  | _ => 1
theorem ArgsR_len {own : Nat → Prop} : ∀ {ty : Ty} {x : ty.D} {vs : List Value}, ArgsR w own ty x vs → vs.length = tyLen ty
  | .nil, _, _, h => by simp only [ArgsR] at h; subst h; rfl
  | .pair a b, _, _, h => by simp only [ArgsR] at h; obtain ⟨v, r, rfl, _, h⟩ := h; simp [tyLen, ArgsR_len h]
  | .int _, _, _, h => by simp only [ArgsR] at h; obtain ⟨v, rfl, _⟩ := h; rfl
  | .bool, _, _, h => by simp only [ArgsR] at h; obtain ⟨v, rfl, _⟩ := h; rfl
  | .str, _, _, h => by simp only [ArgsR] at h; obtain ⟨v, rfl, _⟩ := h; rfl
  | .any, _, _, h => by simp only [ArgsR] at h; obtain ⟨v, rfl, _⟩ := h; rfl
  | .lst _, _, _, h => by simp only [ArgsR] at h; obtain ⟨v, rfl, _⟩ := h; rfl
  | .agg _, _, _, h => by simp only [ArgsR] at h; obtain ⟨v, rfl, _⟩ := h; rfl
theorem argsSt_m : ∀ (ty : Ty) (k : Nat) (x : ty.D) (st : St), (argsSt k ty x st).m = st.m
  | .pair a b, k, x, st => by simp only [argsSt]; rw [St.put_m]; exact argsSt_m b (k + 1) x.2 st
  | .nil, _, _, _ => rfl
  | .int _, _, _, _ => rfl
  | .bool, _, _, _ => rfl
  | .str, _, _, _ => rfl
  | .any, _, _, _ => rfl
  | .lst _, _, _, _ => rfl
  | .agg _, _, _, _ => rfl
theorem argsSt_ok {own : Nat → Prop} {β : Nat → Value} {tm : Nat → Value} : ∀ (ty : Ty) (k : Nat) {x : ty.D} {vs : List Value} {st : St}, ArgsR w own ty x vs → (∀ (i : Nat) (v : Value), vs[i]? = some v → tm (k + i) = v) → (∀ t, AR w own β st.m (st.s t) (tm t)) →
    ∀ t, AR w own β st.m ((argsSt k ty x st).s t) (tm t) := by
  have one : ∀ (ty : Ty) (k : Nat) {x : ty.D} {vs : List Value} {st : St}, (∃ v, vs = [v] ∧ VR w own ty x v) → (∀ (i : Nat) (v : Value), vs[i]? = some v → tm (k + i) = v) → (∀ t, AR w own β st.m (st.s t) (tm t)) → ∀ t, AR w own β st.m ((st.put (some k) (.t ty x)).s t) (tm t) := by
    rintro ty k x vs st ⟨v, rfl, hv⟩ ht hs t
    rw [St.put_s]
    by_cases e : t = k
    · subst e
      simp only [if_true]
      rw [show tm t = v from ht 0 v rfl]; exact hv
    · simp only [e, if_false]; exact hs t
  intro ty
  induction ty with
  | pair a b iha ihb =>
    intro k x vs st h ht hs
    simp only [ArgsR] at h
    obtain ⟨v, r, rfl, hv, hr⟩ := h
    have := ihb (k + 1) hr (fun i v hi => by have := ht (i + 1) v (by simpa using hi); rwa [show k + 1 + i = k + (i + 1) by omega]) hs
    intro t
    simp only [argsSt]
    rw [St.put_s]
    by_cases e : t = k
    · subst e
      simp only [if_true]
      rw [show tm t = v from ht 0 v rfl]; exact hv
    · simp only [e, if_false]; exact this t
  | nil => intro k x vs st h ht hs; exact hs
  | int k => intro k x vs st h ht hs; exact one _ k h ht hs
  | bool => intro k x vs st h ht hs; exact one _ k h ht hs
  | str => intro k x vs st h ht hs; exact one _ k h ht hs
  | any => intro k x vs st h ht hs; exact one _ k h ht hs
  | lst t => intro k x vs st h ht hs; exact one _ k h ht hs
  | agg t => intro k x vs st h ht hs; exact one _ k h ht hs
theorem start_tmp (vs : List Value) (k : Nat) (i : Nat) (v : Value) (h : vs[i]? = some v) : (vs.toArray ++ Array.replicate k undef).getD i undef = v := by
  have hi : i < vs.length := (List.getElem?_eq_some_iff.1 h).1
  rw [Array.getD_eq_getD_getElem?, Array.getElem?_append_left (by simpa using hi)]
  simp [h]
/-- Where a call begins, nothing handed over to be written on. -/
theorem start (w : World) (X : Nat → Prop) {args : Ty} {x : args.D} {vs : List Value} {k : Nat} (hX : ∀ g, X g → g < w.heap.size) (h : ArgsR w X args x vs) (hk : tyLen args ≤ k) :
    EnvR X ⟨fun _ => False, undef, ([], [])⟩ w k ⟨fun _ => undef, fun _ => ([], [])⟩ (argsSt 0 args x st0) { tmps := vs.toArray ++ Array.replicate (k - vs.toArray.size) undef, defers := [] } w := by
  have hm : (argsSt 0 args x st0).m = fun _ => .none := argsSt_m _ _ _ _
  have hlen := ArgsR_len h
  have A : Agree w w X (Own X (fun _ => undef) fun _ => .none) := ⟨fun _ _ _ => rfl, fun g _ ho => by
    rcases ho with ho | ⟨d, hd⟩
    · exact ho
    · simp [blk] at hd⟩
  refine ⟨fun t => ?_, fun d => ?_, fun d d' g hd => ?_, fun d g hd => ?_, fun d g hd => ?_, hX, rfl, ?_, rfl, rfl, rfl, Nat.le_refl _, fun _ _ _ => rfl, fun d hd => ?_⟩
  · rw [hm]
    exact AR_mono (own := X) (β := fun _ => undef) (m := fun _ => .none) A (fun _ _ => rfl) (fun _ => Later.refl _) (argsSt_ok (st := st0) (tm := fun t => (vs.toArray ++ Array.replicate (k - vs.toArray.size) undef).getD t undef) args 0 h (fun i v hi => by rw [Nat.zero_add]; exact start_tmp _ _ i v hi) (fun _ => trivial) t)
  · rw [hm]; trivial
  · rw [hm] at hd; simp [blk] at hd
  · rw [hm] at hd; simp [blk] at hd
  · rw [hm] at hd; simp [blk] at hd
  · simp; omega
  · rw [hm] at hd; cases hd
theorem grows_of (E : EnvR X F w0 n G st a w) (hF : ∀ k, ¬ F k) : Grows w0 w := ⟨E.grown, E.os, E.tape, E.output, fun g hg => E.keep g hg (hF g)⟩
structure FnOK (P : Program) (f : FuncId) (fn : Func) (k : Nat) : Prop where
  at_ : P.funcs[f]? = some fn
  has : fn.body.isNone = false
  name : (fn.name == "runtime.NumGoroutine") = false
  good : goodC fn.ntmps (bodyOf fn) = true
  args : k ≤ fn.ntmps
theorem FnOK.entered {f : FuncId} {fn : Func} {k : Nat} (h : FnOK P f fn k) : Entered P f := ⟨fn, h.at_, h.has, h.name⟩
theorem FnOK.body {f : FuncId} {fn : Func} {k : Nat} (h : FnOK P f fn k) : fn.body = some (bodyOf fn) := by
  have := h.has
  unfold bodyOf
  cases hb : fn.body with
  | none => rw [hb] at this; cases this
  | some c => rfl
theorem ctr_plain {Γ : Ctx} (hΓ : CtxOK P Γ) (hm : P.follows .mixedOrders = true) {A : Live} {f : FuncId} {fn : Func} {args res : Ty} {tup : Bool} (hf : FnOK P f fn (tyLen args)) (htup : tup = !(Nat.beq fn.results.size 1)) :
    Ctr P Γ.glob f (.plain args res tup fun x => evFn Γ A fn args res x) := by
  refine ⟨hf.entered, fun X x r w vs hL hg hX ha hr => ?_⟩
  refine calls_of_wp hf.at_ hf.body ?_
  have H : Home P Γ X ⟨fun _ => False, undef, ([], [])⟩ w := ⟨hΓ, hL, fun g v h => ⟨hg g v h, fun h => h⟩⟩
  refine code_ok H hm (bodyOf fn) hf.good (Q := finQ Γ fn.results.toList res) (r := r) ?_ (start w X hX ha hf.args) hr
  have fin : ∀ G st a w', EnvR X ⟨fun _ => False, undef, ([], [])⟩ w fn.ntmps G st a w' → finM Γ fn.results.toList res st r → a.defers = [] ∧ ∃ v, (results fn a.tmps).run P w' = .ok v w' ∧ ∃ u, Ending.returned v = .returned u ∧ Grows w w' ∧ OutR w' X tup res r u := by
    intro G st a w' E h
    unfold finM at h
    cases hy : asRes Γ st fn.results.toList res with
    | none => rw [hy] at h; exact h.elim
    | some y =>
      rw [hy] at h
      have h : r = y := h
      subst h
      obtain ⟨v, hv, hO⟩ := results_ok E hΓ.ty htup hy
      exact ⟨E.defers, v, hv, v, rfl, grows_of E (fun k h => h), hO⟩
  exact fun G st a w' E => ⟨fun h => fin G st a w' E h, fun i h => h.elim, fun h => fin G st a w' E h⟩
def ownB (ty : Ty) (b : MB) : M (List ty.D) := match b with
  | .own true a l => if h : a = ty then M.ret (castD (congrArg Ty.lst h) l) else M.none
  | _ => M.none
def ownAt (st : St) (ty : Ty) (t : Nat) : M (List ty.D) := match st.s t with
  | .row d => ownB ty (st.m d)
  | _ => M.none
theorem ownB_spec {ty : Ty} {b : MB} {r : List ty.D} (h : ownB ty b r) : b = .own true ty r := by
  cases b <;> first | exact h.elim | skip
  rename_i app a l
  cases app <;> first | exact h.elim | skip
  have h : (if h : a = ty then M.ret (castD (congrArg Ty.lst h) l) else (M.none : M (List ty.D))) r := h
  by_cases hty : a = ty
  · subst hty
    rw [dif_pos rfl] at h
    have h : r = l := h
    subst h
    rfl
  · rw [dif_neg hty] at h; exact h.elim
theorem ownAt_spec {ty : Ty} {t : Nat} {r : List ty.D} (h : ownAt st ty t r) : ∃ d, st.s t = .row d ∧ st.m d = .own true ty r := by
  unfold ownAt at h
  generalize st.s t = av at h
  cases av <;> first | exact h.elim | skip
  rename_i d
  exact ⟨d, rfl, ownB_spec h⟩
theorem ctr_own {Γ : Ctx} (hΓ : CtxOK P Γ) (hm : P.follows .mixedOrders = true) {A : Live} {f : FuncId} {fn : Func} {args ty : Ty} (hf : FnOK P f fn (tyLen args)) :
    Ctr P Γ.glob f (.own args ty fun x => evFnOwn Γ A fn args ty x) := by
  refine ⟨hf.entered, fun X x r w vs hL hg hX ha hr => ?_⟩
  refine calls_of_wp hf.at_ hf.body ?_
  have H : Home P Γ X ⟨fun _ => False, undef, ([], [])⟩ w := ⟨hΓ, hL, fun g v h => ⟨hg g v h, fun h => h⟩⟩
  refine code_ok H hm (bodyOf fn) hf.good (Q := finOwn fn.results.toList ty) (r := r) ?_ (start w X hX ha hf.args) hr
  have fin : ∀ e, (∀ i, e ≠ .exit i) → ∀ G st a w', EnvR X ⟨fun _ => False, undef, ([], [])⟩ w fn.ntmps G st a w' → finOwn fn.results.toList ty e st r → a.defers = [] ∧ ∃ v, (results fn a.tmps).run P w' = .ok v w' ∧ ∃ u, Ending.returned v = .returned u ∧ Grows w w' ∧ NewRow w w' X ty r u := by
    intro e he G st a w' E h
    have key : ∃ t d, fn.results.toList = [.tmp t] ∧ st.s t = .row d ∧ st.m d = .own true ty r := by
      generalize fn.results.toList = rs at h
      cases rs with
      | nil => cases e <;> first | exact absurd rfl (he _) | exact h.elim
      | cons x xs =>
        cases xs with
        | cons z zs => cases e <;> cases x <;> first | exact absurd rfl (he _) | exact h.elim
        | nil =>
          cases x with
          | cell b T => cases e <;> first | exact absurd rfl (he _) | exact h.elim
          | tmp t =>
            have h : ownAt st ty t r := by cases e <;> first | exact absurd rfl (he _) | exact h
            obtain ⟨d, h1, h2⟩ := ownAt_spec h
            exact ⟨t, d, rfl, h1, h2⟩
    obtain ⟨t, d, h1, h2, h3⟩ := key
    have hres : fn.results = #[.tmp t] := by apply Array.ext'; simpa using h1
    refine ⟨E.defers, _, results_tmp hres _ _ _, _, rfl, grows_of E (fun k h => h), ?_⟩
    have hs := E.slots t
    rw [h2] at hs
    simp only [AR, h3] at hs
    rw [hs]
    have hM := E.mems d
    unfold MR at hM; rw [h3] at hM; simp only at hM
    rcases hM with ⟨q1, q2, _⟩ | ⟨g, e', cap, css, post, q1, q2, q3, q4, q5⟩
    · exact .inl ⟨q1, q2⟩
    · rw [if_pos trivial] at q5
      have hb : blk G.β st.m d = some g := by rw [blk_row h3, q1]; rfl
      rw [q5.1] at q1 q2
      refine .inr ⟨g, e', cap, css, post, q1, ?_, by simpa using q2, q3.mono fun y cs hy => R_mono ⟨fun _ _ _ => rfl, fun b _ hb' => ?_⟩ hy, q4, q5.2.1, q5.2.2⟩
      · rcases E.fresh d g hb with h | h
        · exact h
        · exact h.elim
      · rcases hb' with h | rfl
        · exact .inl h
        · exact .inr ⟨d, hb⟩
  exact fun G st a w' E => ⟨fun h => fin .normal (fun _ => by simp) G st a w' E h, fun i h => h.elim, fun h => fin .ret (fun _ => by simp) G st a w' E h⟩
/-- Where a call begins that is handed a row to write on. -/
theorem startRow (w : World) (X : Nat → Prop) {ty args : Ty} {l : List ty.D} {x : args.D} {vs : List Value} {k g : Nat} {e : TypeId} {cap : Nat} {pre post : List Value} {css : List (List Value)} (hX : ∀ b, X b → b < w.heap.size) (hg : ¬ X g)
    (hc : List.length l ≤ cap) (hh : w.heap[g]? = some (.cells (pre ++ css.flatten ++ post).toArray e (0, 0))) (hr : All2 (R w (fun b => X b ∨ b = g) ty) l css) (ha : ArgsR w (fun b => X b ∨ b = g) args x vs) (hk : tyLen args + 1 ≤ k) :
    EnvR X ⟨fun b => b = g, .slice (some ⟨g, pre.length, none⟩) (List.length l) cap, (pre, post)⟩ w k ⟨fun _ => .slice (some ⟨g, pre.length, none⟩) (List.length l) cap, fun _ => (pre, post)⟩ (rowSt ty args l x)
      { tmps := (Value.slice (some ⟨g, pre.length, none⟩) (List.length l) cap :: vs).toArray ++ Array.replicate (k - (Value.slice (some ⟨g, pre.length, none⟩) (List.length l) cap :: vs).toArray.size) undef, defers := [] } w := by
  generalize hv : Value.slice (some ⟨g, pre.length, none⟩) (List.length l) cap = v0
  have hm : (rowSt ty args l x).m = upd (fun _ => .none) 0 (.own false ty l) := by
    unfold rowSt; rw [set_eq, St.put_m, argsSt_m]; rfl
  have hs : (rowSt ty args l x).s = ((argsSt 1 args x st0).put (some 0) (.row 0)).s := by unfold rowSt; rw [set_eq]
  have hlen := ArgsR_len ha
  have hblk : ∀ d b, blk (fun _ => v0) (upd (fun _ => MB.none) 0 (.own false ty l)) d = some b → d = 0 ∧ b = g := by
    intro d b h
    by_cases hd : d = 0
    · subst hd
      rw [blk_row (upd_same _ _ _), ← hv] at h
      simp [headOf] at h
      exact ⟨rfl, h.symm⟩
    · unfold blk at h; rw [upd_other _ _ hd] at h; cases h
  have A : Agree w w (fun b => X b ∨ b = g) (Own X (fun _ => v0) (upd (fun _ => MB.none) 0 (.own false ty l))) := ⟨fun _ _ _ => rfl, fun b _ ho => by
    rcases ho with ho | ⟨d, hd⟩
    · exact .inl ho
    · exact .inr (hblk d b hd).2⟩
  have hgs : g < w.heap.size := (Array.getElem?_eq_some_iff.1 hh).1
  refine ⟨fun t => ?_, fun d => ?_, fun d d' b hd hd' => ?_, fun d b hd => ?_, fun d b hd => ?_, hX, rfl, ?_, rfl, rfl, rfl, Nat.le_refl _, fun _ _ _ => rfl, fun d hd => ⟨rfl, rfl⟩⟩
  · rw [hm, hs]
    rw [St.put_s]
    by_cases ht : t = 0
    · subst ht
      simp only [if_true, AR]
      rw [upd_same]
      simp only
      exact start_tmp (v0 :: vs) _ 0 v0 rfl
    · simp only [ht, if_false]
      refine AR_mono (own := fun b => X b ∨ b = g) (β := fun _ => v0) (m := fun _ => .none) A (fun _ _ => rfl) (fun d => ?_) (argsSt_ok (st := st0) (tm := fun t => ((v0 :: vs).toArray ++ Array.replicate (k - (v0 :: vs).toArray.size) undef).getD t undef) args 1 ha (fun i v hi => start_tmp (v0 :: vs) _ (1 + i) v (by rw [Nat.add_comm]; simpa using hi)) (fun _ => trivial) t)
      trivial
  · rw [hm]
    by_cases hd : d = 0
    · subst hd
      unfold MR
      rw [upd_same]
      simp only
      exact .inr ⟨g, e, cap, css, post, hv.symm, hh, hr.mono fun _ _ h => R_mono A h, hc, by simp⟩
    · unfold MR; rw [upd_other _ _ hd]; trivial
  · rw [hm] at hd hd'; rw [(hblk d b hd).1, (hblk d' b hd').1]
  · rw [hm] at hd; rw [(hblk d b hd).2]; exact hg
  · rw [hm] at hd; exact .inr (hblk d b hd).2
  · simp; omega
def rowEnd (ty : Ty) (b : MB) : Option (List ty.D) := match b with
  | .own false a l => asOne (.row 0) (.own false a l) (.lst ty)
  | _ => none
theorem rowEnd_spec {ty : Ty} {b : MB} {r : List ty.D} (h : rowEnd ty b = some r) : b = .own false ty r := by
  unfold rowEnd at h
  cases b <;> (try simp only at h) <;> first | (cases h; done) | skip
  rename_i app a l
  cases app <;> (try simp only at h) <;> first | (cases h; done) | skip
  simp only [asOne] at h
  split at h
  · rename_i e; subst e
    obtain rfl := Option.some.inj h
    rfl
  · cases h
theorem finRow_spec {Γ : Ctx} {rs : List ResultVar} {ty res : Ty} {e : Ex} {r : res.D × List ty.D} (h : finRow Γ rs ty res e st r) : (∀ i, e ≠ .exit i) ∧ asRes Γ st rs res = some r.1 ∧ st.m 0 = .own false ty r.2 := by
  have key : ∀ (a : Option res.D) (b : Option (List ty.D)), (match a, b with | some x, some l => M.ret (x, l) | _, _ => (M.none : M (res.D × List ty.D))) r → a = some r.1 ∧ b = some r.2 := by
    intro a b h
    cases a <;> cases b <;> first | exact h.elim | skip
    have h : r = _ := h
    subst h; exact ⟨rfl, rfl⟩
  cases e with
  | exit i => exact nomatch (key none (rowEnd ty (st.m 0)) h).1
  | normal =>
    obtain ⟨h1, h2⟩ := key (asRes Γ st rs res) (rowEnd ty (st.m 0)) h
    exact ⟨fun _ => by simp, h1, rowEnd_spec h2⟩
  | ret =>
    obtain ⟨h1, h2⟩ := key (asRes Γ st rs res) (rowEnd ty (st.m 0)) h
    exact ⟨fun _ => by simp, h1, rowEnd_spec h2⟩
theorem ctr_ioRow {Γ : Ctx} (hΓ : CtxOK P Γ) (hm : P.follows .mixedOrders = true) {A : Live} {f : FuncId} {fn : Func} {ty args res : Ty} (hf : FnOK P f fn (tyLen args + 1)) (hflat : ty.hasLst = false) (hres : (res.isNil || Nat.beq fn.results.size 1) = true) :
    Ctr P Γ.glob f (.ioRow ty args res fun l x => evFnRow Γ A fn ty args res l x) := by
  refine ⟨hf.entered, hflat, fun X l x r w vs g e cap pre post css hL hgl hX hg _ hc hh hr ha hF => ?_⟩
  refine calls_of_wp hf.at_ hf.body ?_
  have H : Home P Γ X ⟨fun b => b = g, .slice (some ⟨g, pre.length, none⟩) (List.length l) cap, (pre, post)⟩ w := ⟨hΓ, hL, fun b v h => ⟨fun k => hgl b v h (.inl k), fun k => hgl b v h (.inr k)⟩⟩
  refine code_ok H hm (bodyOf fn) hf.good (Q := finRow Γ fn.results.toList ty res) (r := r) ?_ (startRow w X hX hg hc hh hr ha hf.args) hF
  have fin : ∀ ex G st a w', EnvR X ⟨fun b => b = g, .slice (some ⟨g, pre.length, none⟩) (List.length l) cap, (pre, post)⟩ w fn.ntmps G st a w' → finRow Γ fn.results.toList ty res ex st r → a.defers = [] ∧ ∃ v, (results fn a.tmps).run P w' = .ok v w' ∧ ∃ u, Ending.returned v = .returned u ∧ But g w w' ∧ List.length r.2 = List.length l ∧
      (∃ (e' : TypeId) (css' : List (List Value)), w'.heap[g]? = some (.cells (pre ++ css'.flatten ++ post).toArray e' (0, 0)) ∧ All2 (R w' (fun b => X b ∨ b = g) ty) r.2 css') ∧ OutIO w' X res r.1 u := by
    intro ex G st a w' E h
    obtain ⟨_, h1, h2⟩ := finRow_spec h
    obtain ⟨v, hv, hO⟩ := results_ok E hΓ.ty rfl h1
    obtain ⟨q1, q2⟩ := E.root 0 (by rw [h2]; rfl)
    have hM := E.mems 0
    unfold MR at hM; rw [h2, q1, q2] at hM; simp only at hM
    rcases hM with ⟨h, _, _⟩ | ⟨g', e', cap', css', post', p1, p2, p3, p4, p5⟩
    · cases h
    · simp only [Value.slice.injEq, Option.some.injEq, Addr.mk.injEq, and_true] at p1
      obtain ⟨rfl, hl, rfl⟩ := p1
      rw [if_neg (by simp)] at p5
      rw [p5] at p2
      refine ⟨E.defers, v, hv, v, rfl, ⟨E.grown, E.os, E.tape, E.output, fun k hk hne => E.keep k hk hne⟩, hl.symm, ⟨e', css', p2, p3.mono fun _ _ h => R_flat hflat h⟩, ?_⟩
      simp only [Bool.or_eq_true] at hres
      rcases hres with hn | hn
      · exact .inl hn
      · rw [hn] at hO; exact .inr hO
  exact fun G st a w' E => ⟨fun h => fin .normal G st a w' E h, fun i h => absurd rfl ((finRow_spec h).1 i), fun h => fin .ret G st a w' E h⟩
end Go.Proofs.Yteidggfjcanbjaa.E
