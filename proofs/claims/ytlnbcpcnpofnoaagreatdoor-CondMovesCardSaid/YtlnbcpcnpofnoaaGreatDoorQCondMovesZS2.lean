/- Regions: in their own order, and in any order that may be drawn. -/
import Derived.Test.YtlnbcpcnpofnoaaGreatDoorQCondMovesZS1
import Derived.Still
import Derived.LoopN
import Derived.Scope
import Derived.KernelRfl
import Derived.Laws.StructEq
import Derived.ChangeKeysEq
namespace Go.Proofs.YtlnbcpcnpofnoaaGreatDoor.E
open Go Go.RowKit
set_option linter.unusedVariables false
set_option linter.unusedSimpArgs false

variable {P : Program} {X : Nat → Prop} {F : Root} {w0 : World} {n : Nat} {G : Gh} {st : St} {a : Act} {w : World} {o : Oper}

/-! ### One operation -/
theorem OpOK.of_m {st st' : St} (hm : st.m = st'.m) : ∀ {res : Res}, OpOK P X G st o a w res → OpOK P X G st' o a w res := by
  have hk : ∀ ks : List Nat, (st.kill ks).m = (st'.kill ks).m := by
    intro ks
    induction ks with
    | nil => exact hm
    | cons d ks ih => simp only [St.kill, set_eq]; rw [ih]
  intro res
  induction res with
  | fail => exact id
  | put v => intro h; simp only [OpOK] at h ⊢; rw [← hm]; exact h
  | ite p d r ih => intro h hp; exact ih (h hp)
  | call res tup m kill => intro h; simp only [OpOK] at h ⊢; rw [← hk]; exact h
  | callOwn ty m => intro h; simp only [OpOK] at h ⊢; rw [← hm]; exact h
  | callRow ty res m d app f => intro h; simp only [OpOK] at h ⊢; rw [← hm]; exact h
  | callBox ty res m d off l => intro h; simp only [OpOK] at h ⊢; rw [← hm]; exact h
  | alloc isP b =>
    intro h
    cases isP <;> cases b <;> first | exact h.elim | (simp only [OpOK] at h ⊢; rw [← hm]; exact h) | skip
    rename_i app ty l
    cases app
    · exact h.elim
    · simp only [OpOK] at h ⊢
      rw [← hm]; exact h
  | app base ty l kill => intro h; simp only [OpOK] at h ⊢; rw [← hk, ← hm]; exact h
  | upd d b => intro h; simp only [OpOK] at h ⊢; rw [← hm]; exact h
theorem OpOK.hush : ∀ {res : Res}, OpOK P X G st o a w res → OpOK P X G st o a w res.hush := by
  intro res
  induction res with
  | ite p d r ih => intro h hp; exact ih (h hp)
  | call res tup m kill => intro h; cases kill <;> first | exact h | trivial
  | fail => exact id
  | put v => exact id
  | callOwn ty m => exact id
  | callRow ty res m d app f => intro h; trivial
  | callBox ty res m d off l => intro h; trivial
  | alloc isP b => exact id
  | app base ty l kill => intro h; trivial
  | upd d b => intro h; trivial
theorem OpOK.tame {dr : Bool} {res : Res} (h : OpOK P X G st o a w res) : OpOK P X G st o a w (res.tame dr o) := by
  unfold Res.tame
  cases dr && !loud o
  · exact h
  · exact h.hush
theorem narrow (E : EnvR X F w0 n G st a w) (o : Oper) : EnvR X F w0 n G ⟨restr o st.s, st.m⟩ a w := by
  refine ⟨fun t => ?_, E.mems, E.disj, E.notX, E.fresh, E.xlt, E.defers, E.size, E.os, E.tape, E.output, E.grown, E.keep, E.root⟩
  show AR _ _ _ _ (bif memN t (tmpsOf o) then st.s t else .dead) _
  cases memN t (tmpsOf o)
  · trivial
  · exact E.slots t
/-- What stays as it is while a call lasts: its program, and what it starts from. -/
structure Home (P : Program) (Γ : Ctx) (X : Nat → Prop) (F : Root) (w0 : World) : Prop where
  ctx : CtxOK P Γ
  laid : LaidG Γ.glob w0
  glob : ∀ g v, Γ.glob g = some v → ¬ X g ∧ ¬ F g
theorem Home.lt {Γ : Ctx} (H : Home P Γ X F w0) {g : Nat} {v : IntKind × List Int} (h : Γ.glob g = some v) : g < w0.heap.size := by
  obtain ⟨e, cs, fr, hh, _⟩ := H.laid g v.1 v.2 h
  exact (Array.getElem?_eq_some_iff.1 hh).1
theorem Home.now {Γ : Ctx} (H : Home P Γ X F w0) (E : EnvR X F w0 n G st a w) : LaidG Γ.glob w ∧ ∀ g v, Γ.glob g = some v → ¬ Own X G.β st.m g := by
  refine ⟨fun g k l h => ?_, fun g v h hown => ?_⟩
  · obtain ⟨e, cs, fr, hh, hc⟩ := H.laid g k l h
    exact ⟨e, cs, fr, by rw [E.keep g (H.lt h) (H.glob g _ h).2]; exact hh, hc⟩
  · rcases hown with hx | ⟨d, hd⟩
    · exact (H.glob g v h).1 hx
    · rcases E.fresh d g hd with hf | hf
      · have := H.lt h; omega
      · exact (H.glob g v h).2 hf
theorem op_ok {Γ : Ctx} (H : Home P Γ X F w0) (E : EnvR X F w0 n G st a w) (dr : Bool) (o : Oper) : OpOK P X G st o a w ((evOp Γ o (lookOf dr o st.s st.m)).tame dr o) := by
  refine OpOK.tame ?_
  cases dr
  · obtain ⟨h1, h2⟩ := H.now E
    exact evOp_ok E H.ctx h1 h2
  · have E' := narrow E o
    obtain ⟨h1, h2⟩ := H.now E'
    have h := evOp_ok (o := o) E' H.ctx h1 h2
    exact OpOK.of_m (st := ⟨restr o st.s, st.m⟩) (st' := st) rfl h
theorem runTest_ok (E : EnvR X F w0 n G st a w) {o : Oper} (hd : ∀ d, o.dst = some d → d < n) {ρ : Type} {K : St → M ρ} {r : ρ} {Q : Exit → Act → World → Prop} :
    ∀ {res : Res}, OpOK P X G st o a w res → runTest o.dst st K res r → o.wp P a w (Goes X F w0 n fun st => K st r) Q := by
  intro res ok h
  unfold runTest at h
  split at h
  · rename_i p d
    obtain ⟨x, w', hr, hg, hv⟩ := ok
    simp only [AR] at hv
    subst hv
    by_cases hp : p
    · rw [if_pos hp] at h
      exact wp_value hr ⟨G, _, (E.grows hg).1.put o.dst hd (v := .t .bool true) (by rw [show @decide p d = true from decide_eq_true hp]; exact bool_VR _ _ true), h⟩
    · rw [if_neg hp] at h
      exact wp_value hr ⟨G, _, (E.grows hg).1.put o.dst hd (v := .t .bool false) (by rw [show @decide p d = false from decide_eq_false hp]; exact bool_VR _ _ false), h⟩
  · rename_i b
    obtain ⟨x, w', hr, hg, hv⟩ := ok
    have hx := VR_bool hv
    subst hx
    cases b
    · rw [if_neg (by simp)] at h
      exact wp_value hr ⟨G, _, (E.grows hg).1.put o.dst hd (v := .t .bool false) (bool_VR _ _ false), h⟩
    · rw [if_pos rfl] at h
      exact wp_value hr ⟨G, _, (E.grows hg).1.put o.dst hd (v := .t .bool true) (bool_VR _ _ true), h⟩
  · exact h.elim
def runE {ρ : Type} (t : Bool) (dst : Option Nat) (st : St) (K : St → M ρ) (res : Res) : M ρ := match t with
  | true => runTest dst st K res
  | false => runRes dst st K res
theorem runE_ok (E : EnvR X F w0 n G st a w) {o : Oper} (hd : ∀ d, o.dst = some d → d < n) {ρ : Type} {K : St → M ρ} {r : ρ} {Q : Exit → Act → World → Prop} {t : Bool} {res : Res}
    (ok : OpOK P X G st o a w res) (h : runE t o.dst st K res r) : o.wp P a w (Goes X F w0 n fun st => K st r) Q := by
  cases t
  · exact runRes_ok E hd ok h
  · exact runTest_ok E hd ok h
/-- One operation of a region. -/
def stepE {ρ : Type} (Γ : Ctx) (dr : Bool) (all : List Oper) (t : Bool) (o : Oper) (st : St) (K : St → M ρ) : M ρ :=
  match o.guard with
  | none => runE t o.dst st K ((evOp Γ o (lookOf dr o st.s st.m)).tame dr o)
  | some g => match nthDst all g.1 with
    | none => M.none
    | some d => match st.s d with
      | .t .bool b => match b == g.2 with
        | true => runE t o.dst st K ((evOp Γ o (lookOf dr o st.s st.m)).tame dr o)
        | false => K (st.put o.dst .undef)
      | .undef => K (st.put o.dst .undef)
      | _ => M.none
theorem evOps_cons {ρ : Type} (Γ : Ctx) (dr : Bool) (all : List Oper) (K : St → M ρ) (o : Oper) (rest : List Oper) (k : Nat) (st : St) :
    evOps Γ dr all K (o :: rest) k st = match dr && !loud o && !(isExt o || sepAll st.s k o rest rest) with
      | true => M.none
      | false => stepE Γ dr all (isTest k rest) o st (fun st => evOps Γ dr all K rest (k + 1) st) := by
  obtain ⟨s, m⟩ := st
  unfold stepE runE
  rw [evOps]
  cases isTest k rest <;> rfl
theorem nthDst_eq : ∀ (all : List Oper) (i : Nat), nthDst all i = all[i]?.bind (·.dst)
  | [], _ => by simp [nthDst]
  | o :: l, 0 => by simp [nthDst]
  | o :: l, i + 1 => by simp [nthDst, nthDst_eq l i]
theorem yielded_eq (E : EnvR X F w0 n G st a w) {all : List Oper} (hn : ∀ o ∈ all, ∀ d, o.dst = some d → d < n) {i d : Nat} (hd : nthDst all i = some d) : yielded all.toArray a.tmps i = match a.tmps.getD d undef with | .bool b => some b | _ => none := by
  rw [nthDst_eq] at hd
  cases ho : all[i]? with
  | none => rw [ho] at hd; cases hd
  | some o =>
    rw [ho] at hd
    have hdn : d < a.tmps.size := by rw [E.size]; exact hn o (List.mem_of_getElem? ho) d hd
    unfold yielded
    simp only [List.getElem?_toArray, ho, Option.bind_some] at hd ⊢
    rw [hd]
    simp only [Option.bind_some, Array.getD_eq_getD_getElem?, Array.getElem?_eq_getElem hdn, Option.getD_some]
    cases a.tmps[d] <;> rfl
def StepOK (P : Program) (ops : Array Oper) (o : Oper) (a : Act) (w : World) (K : Act → World → Prop) (Q : Exit → Act → World → Prop) : Prop :=
  if Region.wanted o (yielded ops a.tmps) then o.wp P a w K Q else K (a.put o.dst undef) w
theorem stepE_ok {Γ : Ctx} (H : Home P Γ X F w0) (E : EnvR X F w0 n G st a w) {dr : Bool} {all : List Oper} (hn : ∀ o ∈ all, ∀ d, o.dst = some d → d < n) {t : Bool} {o : Oper} (ho : o ∈ all) {ρ : Type} {K : St → M ρ} {r : ρ} {Q : Exit → Act → World → Prop}
    (h : stepE Γ dr all t o st K r) : StepOK P all.toArray o a w (Goes X F w0 n fun st => K st r) Q := by
  have hop := op_ok H E dr o
  unfold stepE at h
  cases hg : o.guard with
  | none =>
    rw [hg] at h
    simp only at h
    have hwv : Region.wanted o (yielded all.toArray a.tmps) = true := by unfold Region.wanted; rw [hg]
    unfold StepOK
    rw [hwv, if_pos rfl]
    exact runE_ok E (hn o ho) hop h
  | some g =>
    rw [hg] at h
    simp only at h
    cases hd : nthDst all g.1 with
    | none => rw [hd] at h; exact h.elim
    | some d =>
      rw [hd] at h
      simp only at h
      have hwv : Region.wanted o (yielded all.toArray a.tmps) = ((match a.tmps.getD d undef with | .bool b => some b | _ => none) == some g.2) := by
        rw [← yielded_eq E hn hd]; unfold Region.wanted; rw [hg]
      unfold StepOK
      rw [hwv]
      have hs := E.slots d
      cases hb : st.s d with
      | t ty b =>
        rw [hb] at h hs
        cases ty <;> first | exact h.elim | skip
        simp only at h
        have hv := VR_bool hs
        rw [hv]
        simp only
        cases hbg : b == g.2 with
        | true =>
          rw [hbg] at h
          have : b = g.2 := by simpa using hbg
          subst this
          rw [if_pos (by simp)]
          exact runE_ok E (hn o ho) hop h
        | false =>
          rw [hbg] at h
          have hne : (some b == some g.2) = false := by simpa using hbg
          rw [if_neg (by rw [hne]; simp)]
          exact ⟨G, _, E.put o.dst (hn o ho) (v := .undef) rfl, h⟩
      | undef =>
        rw [hb] at h hs
        simp only [AR] at hs
        rw [hs]
        rw [if_neg (by simp [undef])]
        exact ⟨G, _, E.put o.dst (hn o ho) (v := .undef) rfl, h⟩
      | _ => rw [hb] at h; exact h.elim
theorem StepOK.wpOp {ops : Array Oper} {i : Nat} {o : Oper} {K : Act → World → Prop} {Q : Exit → Act → World → Prop} (hi : ops[i]? = some o) (h : StepOK P ops o a w K Q) : wpOp P ops Q i K a w := by
  unfold Go.wpOp
  simp only [hi]
  unfold StepOK at h
  split
  · rename_i hw; simp only [hw, if_true] at h; exact .inl h
  · rename_i hw; simp only [hw] at h; exact h

/-! ### A region in its own order -/
theorem ops_ok {Γ : Ctx} (H : Home P Γ X F w0) {all : List Oper} (hn : ∀ o ∈ all, ∀ d, o.dst = some d → d < n) {ρ : Type} {K : St → M ρ} {r : ρ} {Q : Exit → Act → World → Prop}
    (hQ : ∀ G st a w, EnvR X F w0 n G st a w → K st r → Q .normal a w) : ∀ (rest : List Oper) (k : Nat) {G : Gh} {st : St} {a : Act} {w : World}, (∀ j, rest[j]? = all[k + j]?) → EnvR X F w0 n G st a w → evOps Γ false all K rest k st r → wpOps P all.toArray Q (List.range' k rest.length) a w
  | [], k, G, st, a, w, _, E, h => hQ _ _ _ _ E h
  | o :: rest, k, G, st, a, w, hj, E, h => by
    rw [evOps_cons] at h
    have h0 : all[k]? = some o := by simpa using (hj 0).symm
    have ho : o ∈ all := List.mem_of_getElem? h0
    have := (stepE_ok (Q := Q) H E hn ho h).wpOp (by simpa using h0)
    rw [List.length_cons, List.range'_succ, wpOps_cons]
    exact wpOp_mono (fun a w ⟨G', st', E', h'⟩ => ops_ok H hn hQ rest (k + 1) (fun j => by have := hj (j + 1); simpa [Nat.add_assoc, Nat.add_comm 1 j] using this) E' h') this
theorem region_ok {Γ : Ctx} (H : Home P Γ X F w0) {ops : Array Oper} {id : Nat} (hn : ∀ o ∈ ops.toList, ∀ d, o.dst = some d → d < n) {ρ : Type} {K : St → M ρ} {r : ρ} {Q : Exit → Act → World → Prop}
    (hQ : ∀ G st a w, EnvR X F w0 n G st a w → K st r → Q .normal a w) (E : EnvR X F w0 n G st a w) (h : evOps Γ false ops.toList K ops.toList 0 st r) : (Code.region id ops false).wp P Q a w := by
  refine wp_region ?_
  have := ops_ok H hn hQ ops.toList 0 (fun j => by simp) E h
  rw [List.range_eq_range']
  simpa using this
end Go.Proofs.YtlnbcpcnpofnoaaGreatDoor.E

/- Regions that draw their order: whatever order is drawn, the evaluator's own serves. -/
namespace Go.Proofs.YtlnbcpcnpofnoaaGreatDoor.E
open Go Go.RowKit
set_option linter.unusedVariables false
set_option linter.unusedSimpArgs false

variable {P : Program} {X : Nat → Prop} {F : Root} {w0 : World} {n : Nat} {G : Gh} {st : St} {a : Act} {w : World} {o : Oper}

/-! ### What an operation that changes nothing leaves -/
def updO {α : Type} (f : Nat → α) (d : Option Nat) (v : α) : Nat → α := match d with
  | some d => upd f d v
  | none => f
abbrev U := AV × Option (Nat × MB)
def updM (m : Nat → MB) (b : Option (Nat × MB)) : Nat → MB := match b with
  | some b => upd m b.1 b.2
  | none => m
def appl (st : St) (dst : Option Nat) (u : U) : St := ⟨updO st.s dst u.1, updM st.m u.2⟩
theorem appl_put (st : St) (dst : Option Nat) (v : AV) : appl st dst (v, none) = st.put dst v := by cases dst <;> rfl
theorem appl_set (st : St) (dst : Option Nat) (d : Nat) (v : AV) (b : MB) : appl st dst (v, some (d, b)) = (st.put dst v).set d b := by cases dst <;> rfl
theorem upd_comm {α : Type} (f : Nat → α) {d e : Nat} (h : d ≠ e) (u v : α) : upd (upd f d u) e v = upd (upd f e v) d u := by
  funext i
  by_cases h1 : i = d
  · subst h1
    rw [upd_other _ _ h, upd_same, upd_same]
  · by_cases h2 : i = e
    · subst h2
      rw [upd_same, upd_other _ _ h1, upd_same]
    · rw [upd_other _ _ h2, upd_other _ _ h1, upd_other _ _ h1, upd_other _ _ h2]
theorem updO_comm {α : Type} (f : Nat → α) {d e : Option Nat} (h : ∀ x, d = some x → e ≠ some x) (u v : α) : updO (updO f d u) e v = updO (updO f e v) d u := by
  cases d <;> cases e <;> first | rfl | skip
  rename_i d e
  exact upd_comm f (fun he => h d rfl (by rw [he])) u v
theorem appl_comm (st : St) {d e : Option Nat} (h : ∀ x, d = some x → e ≠ some x) (u v : U) (hm : ∀ p q, u.2 = some p → v.2 = some q → p.1 ≠ q.1) : appl (appl st d u) e v = appl (appl st e v) d u := by
  unfold appl
  congr 1
  · exact updO_comm _ h _ _
  · obtain ⟨u1, u2⟩ := u
    obtain ⟨v1, v2⟩ := v
    cases u2 <;> cases v2 <;> first | rfl | exact upd_comm _ (hm _ _ rfl rfl) _ _
/-- The ways in which an operation may end. -/
def OutF (dst : Option Nat) (m : Nat → MB) (u : U) : Res → Prop
  | .put v => u = (v, none)
  | .ite p _ r => p ∧ OutF dst m u r
  | .call res tup f [] => ∃ r, f r ∧ u = (outAV tup res r, none)
  | .callOwn ty f => ∃ d r, dst = some d ∧ m d = .none ∧ f r ∧ u = (.row d, some (d, .own true ty r))
  | .alloc isP b => ∃ d, dst = some d ∧ m d = .none ∧ u = (match isP with | true => .ptr d 0 | false => .row d, some (d, b))
  | .upd d b => u = (.dead, some (d, b))
  | _ => False
def OutT (u : U) : Res → Prop
  | .put (.bp p _) => (p ∧ u = (.t .bool true, none)) ∨ (¬ p ∧ u = (.t .bool false, none))
  | .put (.t .bool b) => u = (.t .bool b, none)
  | _ => False
def Out (t : Bool) (dst : Option Nat) (m : Nat → MB) (u : U) (r : Res) : Prop := match t with
  | true => OutT u r
  | false => OutF dst m u r
theorem outF_run {ρ : Type} {dst : Option Nat} {K : St → M ρ} {r : ρ} : ∀ {res : Res}, runRes dst st K res.hush r ↔ ∃ u, OutF dst st.m u res.hush ∧ K (appl st dst u) r := by
  intro res
  induction res with
  | fail => exact ⟨fun h => h.elim, fun ⟨_, h, _⟩ => h.elim⟩
  | put v =>
    simp only [Res.hush, runRes, force_eq, OutF]
    exact ⟨fun h => ⟨_, rfl, by rw [appl_put]; exact h⟩, fun ⟨u, h1, h2⟩ => by subst h1; rwa [appl_put] at h2⟩
  | ite p d res ih =>
    simp only [Res.hush, runRes, OutF]
    by_cases hp : p
    · rw [if_pos hp]
      exact ih.trans ⟨fun ⟨u, h1, h2⟩ => ⟨u, ⟨hp, h1⟩, h2⟩, fun ⟨u, h1, h2⟩ => ⟨u, h1.2, h2⟩⟩
    · rw [if_neg hp]
      exact ⟨fun h => h.elim, fun ⟨u, h1, h2⟩ => absurd h1.1 hp⟩
  | call res tup m kill =>
    cases kill with
    | nil =>
      simp only [Res.hush, runRes, OutF]
      constructor
      · rintro ⟨y, hy, h⟩
        exact ⟨_, ⟨y, hy, rfl⟩, by rw [appl_put]; exact h⟩
      · rintro ⟨u, ⟨y, hy, rfl⟩, h⟩
        exact ⟨y, hy, by rwa [appl_put] at h⟩
    | cons k ks => exact ⟨fun h => h.elim, fun ⟨_, h, _⟩ => h.elim⟩
  | callOwn ty m =>
    simp only [Res.hush, runRes, OutF]
    constructor
    · intro h
      cases dst with
      | none => exact h.elim
      | some d =>
        simp only at h
        cases hm : st.m d <;> rw [hm] at h <;> simp only at h <;> first | (exact h.elim) | skip
        obtain ⟨y, hy, h⟩ := h
        exact ⟨_, ⟨d, y, rfl, hm, hy, rfl⟩, by rw [appl_set]; exact h⟩
    · rintro ⟨u, ⟨d, y, rfl, hm, hy, rfl⟩, h⟩
      rw [appl_set] at h
      simp only
      rw [hm]
      exact ⟨y, hy, h⟩
  | callRow ty res m d app f => exact ⟨fun h => h.elim, fun ⟨_, h, _⟩ => h.elim⟩
  | callBox ty res m d off l => exact ⟨fun h => h.elim, fun ⟨_, h, _⟩ => h.elim⟩
  | alloc isP b =>
    simp only [Res.hush, runRes, OutF]
    constructor
    · intro h
      cases dst with
      | none => exact h.elim
      | some d =>
        simp only at h
        cases hm : st.m d <;> rw [hm] at h <;> simp only at h <;> first | (exact h.elim) | skip
        rw [MBforce_eq] at h
        refine ⟨_, ⟨d, rfl, hm, rfl⟩, ?_⟩
        rw [appl_set]
        cases isP <;> exact h
    · rintro ⟨u, ⟨d, rfl, hm, rfl⟩, h⟩
      rw [appl_set] at h
      simp only
      rw [hm]
      simp only
      rw [MBforce_eq]
      cases isP <;> exact h
  | app base ty l kill => exact ⟨fun h => h.elim, fun ⟨_, h, _⟩ => h.elim⟩
  | upd d b => exact ⟨fun h => h.elim, fun ⟨_, h, _⟩ => h.elim⟩
theorem outT_run {ρ : Type} {dst : Option Nat} {K : St → M ρ} {r : ρ} {res : Res} : runTest dst st K res r ↔ ∃ u, OutT u res ∧ K (appl st dst u) r := by
  cases res with
  | put v =>
    cases v with
    | bp p d =>
      simp only [runTest, OutT]
      by_cases hp : p
      · rw [if_pos hp]
        exact ⟨fun h => ⟨_, .inl ⟨hp, rfl⟩, by rw [appl_put]; exact h⟩, fun ⟨u, h1, h2⟩ => by
          rcases h1 with ⟨_, rfl⟩ | ⟨h1, _⟩
          · rwa [appl_put] at h2
          · exact absurd hp h1⟩
      · rw [if_neg hp]
        exact ⟨fun h => ⟨_, .inr ⟨hp, rfl⟩, by rw [appl_put]; exact h⟩, fun ⟨u, h1, h2⟩ => by
          rcases h1 with ⟨h1, _⟩ | ⟨_, rfl⟩
          · exact absurd h1 hp
          · rwa [appl_put] at h2⟩
    | t ty b =>
      cases ty <;> first | (exact ⟨fun h => h.elim, fun ⟨_, h, _⟩ => h.elim⟩) | skip
      simp only [runTest, OutT]
      obtain ⟨b, rfl⟩ : ∃ b' : Bool, b' = b := ⟨b, rfl⟩
      cases b
      · rw [if_neg (by simp)]
        exact ⟨fun h => ⟨_, rfl, by rw [appl_put]; exact h⟩, fun ⟨u, h1, h2⟩ => by subst h1; rwa [appl_put] at h2⟩
      · rw [if_pos rfl]
        exact ⟨fun h => ⟨_, rfl, by rw [appl_put]; exact h⟩, fun ⟨u, h1, h2⟩ => by subst h1; rwa [appl_put] at h2⟩
    | _ => exact ⟨fun h => h.elim, fun ⟨_, h, _⟩ => h.elim⟩
  | _ => exact ⟨fun h => h.elim, fun ⟨_, h, _⟩ => h.elim⟩
def isStore (o : Oper) : Bool := match o.op with
  | .store _ _ _ => true
  | _ => false
def soft (o : Oper) : Bool := !loud o || isStore o
theorem isStore_loud {o : Oper} (h : isStore o = true) : loud o = true := by
  unfold isStore at h
  unfold loud
  split at h
  · rename_i ho; rw [ho]
  · cases h
theorem isExt_soft {o : Oper} (h : isExt o = true) : loud o = false := by
  unfold isExt at h
  unfold loud
  split at h
  · rename_i ho; rw [ho]
  · cases h
theorem tame_hush {o : Oper} (hl : loud o = false) (r : Res) : r.tame true o = r.hush := by unfold Res.tame; rw [hl]; rfl
theorem tame_store {o : Oper} (hl : isStore o = true) (r : Res) : r.tame true o = r := by unfold Res.tame; rw [isStore_loud hl]; rfl
theorem store_res {Γ : Ctx} {o : Oper} (hl : isStore o = true) (L : Look) : evOp Γ o L = .fail ∨ ∃ d b, evOp Γ o L = .upd d b := by
  unfold isStore at hl
  split at hl
  · rename_i T x y ho
    unfold evOp
    rw [ho]
    simp only
    repeat' split
    all_goals first
      | exact .inl rfl
      | exact .inr ⟨_, _, rfl⟩
  · cases hl
theorem out_run {ρ : Type} {Γ : Ctx} {o : Oper} (hl : soft o = true) (L : Look) {t : Bool} {dst : Option Nat} {K : St → M ρ} {r : ρ} : runE t dst st K ((evOp Γ o L).tame true o) r ↔ ∃ u, Out t dst st.m u ((evOp Γ o L).tame true o) ∧ K (appl st dst u) r := by
  cases hh : loud o with
  | false =>
    rw [tame_hush hh]
    cases t
    · exact outF_run
    · exact outT_run
  | true =>
    have hs : isStore o = true := by unfold soft at hl; rw [hh] at hl; simpa using hl
    rw [tame_store hs]
    rcases store_res (Γ := Γ) hs L with h | ⟨d, b, h⟩ <;> rw [h]
    · cases t <;> exact ⟨fun h => h.elim, fun ⟨_, h, _⟩ => h.elim⟩
    · cases t
      · simp only [runE, runRes, MBforce_eq, Out, OutF]
        exact ⟨fun h => ⟨_, rfl, by rw [appl_set]; exact h⟩, fun ⟨u, h1, h2⟩ => by subst h1; rwa [appl_set] at h2⟩
      · exact ⟨fun h => h.elim, fun ⟨_, h, _⟩ => h.elim⟩
def want (all : List Oper) (o : Oper) (s : Nat → AV) : Option Bool := match o.guard with
  | none => some true
  | some g => match nthDst all g.1 with
    | none => none
    | some d => match s d with
      | .t .bool b => some (b == g.2)
      | .undef => some false
      | _ => none
def Qu (Γ : Ctx) (all : List Oper) (t : Bool) (o : Oper) (st : St) (u : U) : Prop := match want all o st.s with
  | some true => Out t o.dst st.m u ((evOp Γ o (lookOf true o st.s st.m)).tame true o)
  | some false => u = (.undef, none)
  | none => False
theorem step_Qu {Γ : Ctx} {all : List Oper} {t : Bool} {o : Oper} (hl : soft o = true) {ρ : Type} {K : St → M ρ} {r : ρ} : stepE Γ true all t o st K r ↔ ∃ u, Qu Γ all t o st u ∧ K (appl st o.dst u) r := by
  unfold stepE Qu want
  cases hg : o.guard with
  | none => exact out_run hl _
  | some g =>
    simp only
    cases hd : nthDst all g.1 with
    | none => exact ⟨fun h => h.elim, fun ⟨_, h, _⟩ => h.elim⟩
    | some d =>
      simp only
      cases hs : st.s d with
      | t ty b =>
        cases ty <;> first | (exact ⟨fun h => h.elim, fun ⟨_, h, _⟩ => h.elim⟩) | skip
        simp only
        cases hb : b == g.2 with
        | true => exact out_run hl _
        | false => exact ⟨fun h => ⟨_, rfl, by rw [appl_put]; exact h⟩, fun ⟨u, h1, h2⟩ => by subst h1; rwa [appl_put] at h2⟩
      | undef => exact ⟨fun h => ⟨_, rfl, by rw [appl_put]; exact h⟩, fun ⟨u, h1, h2⟩ => by subst h1; rwa [appl_put] at h2⟩
      | _ => exact ⟨fun h => h.elim, fun ⟨_, h, _⟩ => h.elim⟩
/-- A new row or box is laid where none was. -/
theorem Qu_new {Γ : Ctx} {all : List Oper} {t : Bool} {o : Oper} (hl : loud o = false) {u : U} (h : Qu Γ all t o st u) {b : Nat × MB} (hb : u.2 = some b) : o.dst = some b.1 ∧ st.m b.1 = .none := by
  have key : ∀ res : Res, OutF o.dst st.m u res.hush → o.dst = some b.1 ∧ st.m b.1 = .none := by
    intro res
    induction res with
    | fail => exact fun h => h.elim
    | put v => intro h; simp only [Res.hush, OutF] at h; subst h; cases hb
    | ite p d r ih => exact fun h => ih h.2
    | call res tup m kill =>
      intro h
      cases kill with
      | nil => obtain ⟨y, _, rfl⟩ := h; cases hb
      | cons => exact h.elim
    | callOwn ty m => rintro ⟨d, r, h1, h2, _, rfl⟩; simp at hb; subst hb; exact ⟨h1, h2⟩
    | callRow ty res m d app f => exact fun h => h.elim
    | callBox ty res m d off l => exact fun h => h.elim
    | alloc isP b => rintro ⟨d, h1, h2, rfl⟩; simp at hb; subst hb; exact ⟨h1, h2⟩
    | app base ty l kill => exact fun h => h.elim
    | upd d b => exact fun h => h.elim
  unfold Qu at h
  rw [tame_hush hl] at h
  split at h
  · unfold Out at h
    split at h
    · unfold OutT at h
      split at h
      · rcases h with ⟨_, rfl⟩ | ⟨_, rfl⟩ <;> cases hb
      · subst h; cases hb
      · exact h.elim
    · exact key _ h
  · subst h; cases hb
  · exact h.elim

/-! ### Two operations that are apart -/
theorem AR_ref {own : Nat → Prop} {β : Nat → Value} {m : Nat → MB} {x : AV} {v : Value} (h : AR w own β m x v) {d : Nat} (hd : refOf x = some d) : m d ≠ .none := by
  intro hm
  cases x <;> simp [refOf] at hd <;> subst hd <;> simp only [AR, hm] at h <;> exact h.2
theorem at_upd {m : Nat → MB} {x : AV} {e : Nat} (h : refOf x ≠ some e) (b : MB) : x.at (upd m e b) = x.at m := by
  cases x <;> first | rfl | (simp only [AV.at]; rw [upd_other _ _ (fun h' => h (by rw [← h']; rfl))])
def Sup (X : Nat → Prop) (F : Root) (w0 : World) (n : Nat) (st : St) : Prop := ∃ G a w, EnvR X F w0 n G st a w
theorem memN_mem {n : Nat} : ∀ {l : List Nat}, memN n l = true → n ∈ l
  | [], h => by cases h
  | m :: r, h => by
    simp only [memN, Bool.or_eq_true] at h
    rcases h with h | h
    · exact List.mem_cons.2 (.inl (Nat.eq_of_beq_eq_true h))
    · exact List.mem_cons.2 (.inr (memN_mem h))
theorem look_appl (S : Sup X F w0 n st) {o : Oper} {d : Option Nat} {u : U} (hd : ∀ t, t ∈ tmpsOf o → d ≠ some t) (hu : ∀ b, u.2 = some b → d = some b.1 ∧ st.m b.1 = .none) :
    lookOf true o (appl st d u).s (appl st d u).m = lookOf true o st.s st.m := by
  obtain ⟨G, a, w, E⟩ := S
  have hs : restr o (appl st d u).s = restr o st.s := by
    funext t
    show (bif memN t (tmpsOf o) then updO st.s d u.1 t else .dead) = bif memN t (tmpsOf o) then st.s t else .dead
    cases hm : memN t (tmpsOf o)
    · rfl
    · have := hd t (memN_mem hm)
      cases d with
      | none => rfl
      | some e => simp only [updO, cond_true]; exact upd_other _ _ (fun h => this (by rw [h]))
  unfold lookOf
  simp only
  funext x
  unfold St.look
  rw [hs]
  show (St.ev ⟨restr o st.s, updM st.m u.2⟩ x).at (updM st.m u.2) = (St.ev ⟨restr o st.s, st.m⟩ x).at st.m
  have he : St.ev ⟨restr o st.s, updM st.m u.2⟩ x = St.ev ⟨restr o st.s, st.m⟩ x := by cases x <;> rfl
  rw [he]
  cases hb : u.2 with
  | none => rfl
  | some b =>
    obtain ⟨_, hme⟩ := hu b hb
    simp only [updM]
    refine at_upd (fun hr => ?_) b.2
    have hA : AR w (Own X G.β st.m) G.β st.m (St.ev ⟨restr o st.s, st.m⟩ x) (a.eval x) := by
      cases x with
      | tmp t => exact (narrow E o).slots t
      | const v => exact ofValue_AR v
      | global g => rfl
      | func f => trivial
    exact AR_ref hA hr hme
theorem mem_tmps {o : Oper} {t : Nat} (ops : Array Oper) (h : t ∈ tmpsOf o) : t ∈ o.looksAt ops := by
  unfold tmpsOf at h
  unfold Oper.looksAt
  refine List.mem_append.2 (.inl ?_)
  obtain ⟨x, hx, hx2⟩ := List.mem_filterMap.1 h
  refine List.mem_filterMap.2 ⟨x, hx, ?_⟩
  cases x <;> simp [tmpOf] at hx2 ⊢
  exact hx2
theorem guard_tmp {o : Oper} {all : List Oper} {g : Nat × Bool} (hg : o.guard = some g) {d : Nat} (hd : nthDst all g.1 = some d) : d ∈ o.looksAt all.toArray := by
  unfold Oper.looksAt
  refine List.mem_append.2 (.inr ?_)
  rw [hg, nthDst_eq] at *
  simp only [List.getElem?_toArray, hd]
  simp
/-- A part of an answer does not hang on memory. -/
theorem ext_look {Γ : Ctx} {o : Oper} (he : isExt o = true) {d : Option Nat} {u : U} (hd : ∀ t, t ∈ tmpsOf o → d ≠ some t) : evOp Γ o (lookOf true o (appl st d u).s (appl st d u).m) = evOp Γ o (lookOf true o st.s st.m) := by
  have hs : restr o (appl st d u).s = restr o st.s := by
    funext t
    show (bif memN t (tmpsOf o) then updO st.s d u.1 t else .dead) = bif memN t (tmpsOf o) then st.s t else .dead
    cases hm : memN t (tmpsOf o)
    · rfl
    · have := hd t (memN_mem hm)
      cases d with
      | none => rfl
      | some e => simp only [updO, cond_true]; exact upd_other _ _ (fun h => this (by rw [h]))
  unfold isExt at he
  split at he
  · rename_i x i ho
    unfold evOp
    rw [ho]
    simp only [lookOf, St.look]
    rw [hs]
    have hev : St.ev ⟨restr o st.s, (appl st d u).m⟩ x = St.ev ⟨restr o st.s, st.m⟩ x := by cases x <;> rfl
    rw [hev]
    generalize St.ev ⟨restr o st.s, st.m⟩ x = v
    cases v <;> first | rfl | skip
    all_goals
      simp only [AV.at]
      generalize (appl st d u).m _ = b1
      generalize st.m _ = b2
      cases b1 <;> cases b2 <;> rfl
  · cases he
theorem want_appl {all : List Oper} {o : Oper} {d : Option Nat} {u : U} (h1 : ∀ t, d = some t → t ∉ o.looksAt all.toArray) : want all o (appl st d u).s = want all o st.s := by
  unfold want
  cases hg : o.guard with
  | none => rfl
  | some g =>
    simp only
    cases hd : nthDst all g.1 with
    | none => rfl
    | some e =>
      simp only
      have : (appl st d u).s e = st.s e := by
        cases d with
        | none => rfl
        | some f => exact upd_other _ _ (fun he => h1 f rfl (he ▸ guard_tmp hg hd))
      rw [this]
theorem ext_out {Γ : Ctx} {o : Oper} (he : isExt o = true) (L : Look) : evOp Γ o L = .fail ∨ ∃ v, evOp Γ o L = .put v := by
  unfold isExt at he
  split at he
  · rename_i x i ho
    unfold evOp
    rw [ho]
    simp only
    repeat' split
    all_goals first
      | exact .inl rfl
      | exact .inr ⟨_, rfl⟩
  · cases he
theorem ext_Out {Γ : Ctx} {o : Oper} (he : isExt o = true) (L : Look) {t : Bool} {dst dst' : Option Nat} {m m' : Nat → MB} {v : U} : Out t dst m v ((evOp Γ o L).tame true o) ↔ Out t dst' m' v ((evOp Γ o L).tame true o) := by
  rw [tame_hush (isExt_soft he)]
  rcases ext_out (Γ := Γ) he L with h | ⟨x, h⟩ <;> rw [h] <;> cases t <;> exact Iff.rfl
theorem ext_none {Γ : Ctx} {all : List Oper} {t : Bool} {o : Oper} (he : isExt o = true) {u : U} (h : Qu Γ all t o st u) : u.2 = none := by
  unfold Qu at h
  rw [tame_hush (isExt_soft he)] at h
  split at h
  · rcases ext_out (Γ := Γ) he (lookOf true o st.s st.m) with h' | ⟨x, h'⟩ <;> rw [h'] at h <;> cases t
    · exact h.elim
    · exact h.elim
    · have h : u = (x, none) := h
      rw [h]
    · simp only [Out, Res.hush] at h
      unfold OutT at h
      split at h
      · rcases h with ⟨_, rfl⟩ | ⟨_, rfl⟩ <;> rfl
      · subst h; rfl
      · exact h.elim
  · subst h; rfl
  · exact h.elim
theorem Qu_ext {Γ : Ctx} {all : List Oper} {t : Bool} {o : Oper} (he : isExt o = true) {d : Option Nat} {u v : U} (h1 : ∀ t, d = some t → t ∉ o.looksAt all.toArray) : Qu Γ all t o (appl st d u) v ↔ Qu Γ all t o st v := by
  unfold Qu
  rw [want_appl h1, ext_look he (fun t ht hd => h1 t hd (mem_tmps _ ht))]
  split
  · exact ext_Out he _
  · exact Iff.rfl
  · exact Iff.rfl
theorem ofValue_ref (v : Value) : refOf (ofValue v) = none := by
  unfold ofValue
  split
  · split <;> rfl
  · split <;> rfl
/-- Operations see what they saw, where a store writes on nothing that they see. -/
theorem look_upd {o : Oper} {d : Option Nat} {v : U} (hd : ∀ t, t ∈ tmpsOf o → d ≠ some t) (hv : ∀ b, v.2 = some b → ∀ t ∈ tmpsOf o, refOf (st.s t) ≠ some b.1) : lookOf true o (appl st d v).s (appl st d v).m = lookOf true o st.s st.m := by
  have hs : restr o (appl st d v).s = restr o st.s := by
    funext t
    show (bif memN t (tmpsOf o) then updO st.s d v.1 t else .dead) = bif memN t (tmpsOf o) then st.s t else .dead
    cases hm : memN t (tmpsOf o)
    · rfl
    · have := hd t (memN_mem hm)
      cases d with
      | none => rfl
      | some e => simp only [updO, cond_true]; exact upd_other _ _ (fun h => this (by rw [h]))
  unfold lookOf
  simp only
  funext x
  unfold St.look
  rw [hs]
  show (St.ev ⟨restr o st.s, updM st.m v.2⟩ x).at (updM st.m v.2) = (St.ev ⟨restr o st.s, st.m⟩ x).at st.m
  have he : St.ev ⟨restr o st.s, updM st.m v.2⟩ x = St.ev ⟨restr o st.s, st.m⟩ x := by cases x <;> rfl
  rw [he]
  cases hb : v.2 with
  | none => rfl
  | some b =>
    refine at_upd (fun hr => ?_) b.2
    cases x with
    | tmp t =>
      have hr : refOf (bif memN t (tmpsOf o) then st.s t else .dead) = some b.1 := hr
      cases hm : memN t (tmpsOf o) with
      | true => rw [hm] at hr; exact hv b hb t (memN_mem hm) hr
      | false => rw [hm] at hr; cases hr
    | const w => have hr : refOf (ofValue w) = some b.1 := hr; rw [ofValue_ref] at hr; cases hr
    | global g => cases hr
    | func f => cases hr
theorem OutF_m {dst : Option Nat} {m m' : Nat → MB} (h : ∀ e, dst = some e → m e = .none → m' e = .none) {u : U} : ∀ {res : Res}, OutF dst m u res → OutF dst m' u res := by
  intro res
  induction res with
  | ite p d r ih => exact fun hh => ⟨hh.1, ih hh.2⟩
  | call res tup m kill => cases kill <;> exact id
  | callOwn ty f => exact fun ⟨d, r, a1, a2, a3⟩ => ⟨d, r, a1, h d a1 a2, a3⟩
  | alloc isP b => exact fun ⟨d, a1, a2, a3⟩ => ⟨d, a1, h d a1 a2, a3⟩
  | _ => exact id
/-- What a store writes on. -/
theorem store_target {Γ : Ctx} {all : List Oper} {t : Bool} {y : Oper} (hy : isStore y = true) {v : U} (h : Qu Γ all t y st v) {b : Nat × MB} (hb : v.2 = some b) : ∃ ta, storeAt y = some ta ∧ refOf (st.s ta) = some b.1 ∧ st.m b.1 ≠ .none := by
  unfold Qu at h
  rw [tame_store hy] at h
  split at h
  · unfold isStore at hy
    split at hy
    · rename_i T x z ho
      rcases store_res (Γ := Γ) (o := y) (by unfold isStore; rw [ho]) (lookOf true y st.s st.m) with he | ⟨d, c, he⟩
      · rw [he] at h; cases t <;> exact h.elim
      · have hv : v = (.dead, some (d, c)) := by
          rw [he] at h
          cases t
          · exact h
          · exact h.elim
        subst hv
        have hbd : (d, c) = b := by simpa using hb
        subst hbd
        unfold evOp at he
        rw [ho] at he
        simp only [lookOf] at he
        have key : ∀ q : AV × MB, q = St.look ⟨restr y st.s, st.m⟩ x → ((∃ off, q.1 = .ptr d off) ∧ ∃ l, q.2 = .box l) ∨ ((∃ i, q.1 = .elt d i) ∧ ∃ app ty l, q.2 = .own app ty l) ∨ ((∃ ty i n, q.1 = .vptr d ty i n) ∧ ∃ l, q.2 = .box l) → ∃ ta, storeAt y = some ta ∧ refOf (st.s ta) = some d ∧ st.m d ≠ .none := by
          intro q hq h
          have hx : ∀ e : AV, (e.at st.m) = q → (refOf e = some d ∧ st.m d ≠ .none) := by
            intro e he
            rw [← he] at h
            cases e <;> simp only [AV.at] at h
            all_goals first
              | (rcases h with ⟨⟨off, h1⟩, l, h2⟩ | ⟨⟨i, h1⟩, app, ty, l, h2⟩ | ⟨⟨ty, i, n, h1⟩, l, h2⟩ <;> first
                  | (cases h1; done)
                  | (cases h1; exact ⟨rfl, by rw [h2]; simp⟩))
              | (split at h <;> rcases h with ⟨⟨off, h1⟩, l, h2⟩ | ⟨⟨i, h1⟩, app, ty, l, h2⟩ | ⟨⟨ty, i, n, h1⟩, l, h2⟩ <;> cases h1)
          obtain ⟨h1, h2⟩ := hx _ hq.symm
          cases x with
          | tmp ta =>
            refine ⟨ta, by unfold storeAt; rw [ho], ?_, h2⟩
            have h1 : refOf (bif memN ta (tmpsOf y) then st.s ta else .dead) = some d := h1
            cases hm : memN ta (tmpsOf y) with
            | true => rw [hm] at h1; exact h1
            | false => rw [hm] at h1; cases h1
          | const w => have h1 : refOf (ofValue w) = some d := h1; rw [ofValue_ref] at h1; cases h1
          | global g => cases h1
          | func f => cases h1
        generalize hq : St.look ⟨restr y st.s, st.m⟩ x = q at he
        refine key q hq.symm ?_
        obtain ⟨q1, q2⟩ := q
        cases q1 <;> simp only at he <;> first | (cases he; done) | skip
        · cases q2 <;> simp only at he <;> first | (cases he; done) | skip
          split at he
          · split at he
            · cases he; exact .inl ⟨⟨_, rfl⟩, _, rfl⟩
            · cases he
          · cases he
        · cases q2 <;> simp only at he <;> first | (cases he; done) | skip
          split at he
          · cases he; exact .inr (.inl ⟨⟨_, rfl⟩, _, _, _, rfl⟩)
          · cases he
        · cases q2 <;> simp only at he <;> first | (cases he; done) | skip
          split at he
          · cases he; exact .inr (.inr ⟨⟨_, _, _, rfl⟩, _, rfl⟩)
          · cases he
    · cases hy
  · subst h; cases hb
  · exact h.elim
theorem Qu_move {Γ : Ctx} {all : List Oper} {t : Bool} {x : Oper} {d : Option Nat} {u v : U} (h1 : ∀ t, d = some t → t ∉ x.looksAt all.toArray) (hv : ∀ b, v.2 = some b → (∀ t ∈ tmpsOf x, refOf (st.s t) ≠ some b.1) ∧ st.m b.1 ≠ .none) (h : Qu Γ all t x st u) : Qu Γ all t x (appl st d v) u := by
  unfold Qu at h ⊢
  rw [want_appl h1, look_upd (fun t ht hd => h1 t hd (mem_tmps _ ht)) (fun b hb => (hv b hb).1)]
  split at h
  · rename_i hw
    cases t
    · refine OutF_m (fun e he hm => ?_) h
      show updM st.m v.2 e = .none
      cases hb : v.2 with
      | none => exact hm
      | some b => exact (upd_other _ _ (fun h' => (hv b hb).2 (by rw [← h']; exact hm))).trans hm
    · exact h
  · exact h
  · exact h
theorem Qu_appl {Γ : Ctx} {all : List Oper} (S : Sup X F w0 n st) {t : Bool} {o : Oper} {d : Option Nat} {u v : U} (h1 : ∀ t, d = some t → t ∉ o.looksAt all.toArray) (h2 : ∀ t, d = some t → o.dst ≠ some t)
    (hu : ∀ b, u.2 = some b → d = some b.1 ∧ st.m b.1 = .none) : Qu Γ all t o (appl st d u) v ↔ Qu Γ all t o st v := by
  have hw : want all o (appl st d u).s = want all o st.s := want_appl h1
  have hl := look_appl S (o := o) (d := d) (u := u) (fun t ht hd => h1 t hd (mem_tmps _ ht)) hu
  have hout : ∀ res : Res, Out t o.dst (appl st d u).m v res ↔ Out t o.dst st.m v res := by
    intro res
    unfold Out
    cases t
    · simp only
      have hm : ∀ e, o.dst = some e → (appl st d u).m e = st.m e := by
        intro e he
        show updM st.m u.2 e = st.m e
        cases hb : u.2 with
        | none => rfl
        | some b => exact upd_other _ _ (fun h => h2 b.1 (hu b hb).1 (by rw [he, h]))
      induction res with
      | ite p d r ih => exact and_congr Iff.rfl ih
      | call res tup m kill => cases kill <;> exact Iff.rfl
      | callOwn ty m =>
        simp only [OutF]
        exact ⟨fun ⟨e, r, a1, a2, a3⟩ => ⟨e, r, a1, by rw [← hm e a1]; exact a2, a3⟩, fun ⟨e, r, a1, a2, a3⟩ => ⟨e, r, a1, by rw [hm e a1]; exact a2, a3⟩⟩
      | alloc isP b =>
        simp only [OutF]
        exact ⟨fun ⟨e, a1, a2, a3⟩ => ⟨e, a1, by rw [← hm e a1]; exact a2, a3⟩, fun ⟨e, a1, a2, a3⟩ => ⟨e, a1, by rw [hm e a1]; exact a2, a3⟩⟩
      | _ => exact Iff.rfl
    · exact Iff.rfl
  unfold Qu
  rw [hw, hl]
  split
  · exact hout _
  · exact Iff.rfl
  · exact Iff.rfl
theorem wp_goes {o : Oper} {K : Act → World → Prop} (h : o.wp P a w K fun _ _ _ => False) : ∃ a' w', K a' w' := by
  unfold Oper.wp at h
  generalize (execOp a.eval o).run P w = r at h
  cases r with
  | ok nx w' =>
    cases nx <;> simp only [Oper.upon] at h
    case value v => exact ⟨_, _, h⟩
    case skip => exact ⟨_, _, h⟩
    case defer d => exact ⟨_, _, h⟩
    case enter f args =>
      obtain ⟨e, w'', fr, hR, _⟩ := h []
      cases e with
      | returned v => exact ⟨_, _, hR⟩
      | panicked c => exact hR.elim
      | outgrown => obtain ⟨_, _, hR⟩ := hR; exact hR.elim
    case row row args =>
      obtain ⟨v, w'', hR, _⟩ := h default []
      exact ⟨_, _, hR⟩
  | halt x w' => cases x <;> simp only [Oper.upon] at h
theorem Sup_step {Γ : Ctx} (H : Home P Γ X F w0) {all : List Oper} (hn : ∀ o ∈ all, ∀ d, o.dst = some d → d < n) (S : Sup X F w0 n st) {t : Bool} {o : Oper} (ho : o ∈ all) (hl : soft o = true) {u : U} (h : Qu Γ all t o st u) : Sup X F w0 n (appl st o.dst u) := by
  obtain ⟨G, a, w, E⟩ := S
  have h1 := (step_Qu (ρ := Unit) (K := fun st' _ => st' = appl st o.dst u) (r := ()) hl).2 ⟨u, h, rfl⟩
  have h2 := stepE_ok (Q := fun _ _ _ => False) H E hn ho h1
  unfold StepOK at h2
  split at h2
  · obtain ⟨a', w', G', st', E', rfl⟩ := wp_goes h2
    exact ⟨G', a', w', E'⟩
  · obtain ⟨G', st', E', rfl⟩ := h2
    exact ⟨G', _, _, E'⟩

/-! ### Every order -/
def pairB (ops : Array Oper) (x y : Oper) : Bool := x.apart ops y && ((!loud x && !loud y) || (isExt x && isStore y) || (!loud x && isStore y) || (isStore x && isExt y))
/-- A store that may come ahead writes on nothing that x sees. -/
def Sep (s : Nat → AV) (x y : Oper) : Prop := ∀ ta d, storeAt y = some ta → refOf (s ta) = some d → ∀ t ∈ tmpsOf x, refOf (s t) ≠ some d
theorem pair_soft {ops : Array Oper} {x y : Oper} (h : pairB ops x y = true) : soft x = true ∧ soft y = true := by
  simp only [pairB, Bool.and_eq_true, Bool.or_eq_true, Bool.not_eq_true'] at h
  unfold soft
  rcases h.2 with ((⟨h1, h2⟩ | ⟨h1, h2⟩) | ⟨h1, h2⟩) | ⟨h1, h2⟩
  · rw [h1, h2]; exact ⟨rfl, rfl⟩
  · rw [isExt_soft h1, h2]; simp
  · rw [h1, h2]; simp
  · rw [isExt_soft h2, h1]; simp
/-- Two operations of a pair: the one does not move the other, and their ends can be told in either order. -/
theorem pair_ok {Γ : Ctx} {all : List Oper} (S : Sup X F w0 n st) {x y : Oper} (h : pairB all.toArray x y = true) {t t' : Bool} {u v : U} (hsep : isExt x = false → Sep st.s x y) (hu : Qu Γ all t x st u) :
    (Qu Γ all t' y (appl st x.dst u) v ↔ Qu Γ all t' y st v) ∧ (Qu Γ all t' y st v → (Qu Γ all t x (appl st y.dst v) u ∧ appl (appl st x.dst u) y.dst v = appl (appl st y.dst v) x.dst u)) := by
  have h0 := h
  simp only [pairB, Bool.and_eq_true, Bool.or_eq_true, Bool.not_eq_true'] at h
  obtain ⟨p1, p2, p3⟩ := Oper.apart_spec h.1
  cases hext : isExt x with
  | true =>
    have hn := ext_none hext hu
    refine ⟨Qu_appl S p1 p2 (fun b hb => by rw [hn] at hb; cases hb), fun hv => ⟨(Qu_ext hext p3).2 hu, appl_comm st p2 u v fun p q hp hq e => ?_⟩⟩
    rw [hn] at hp; cases hp
  | false =>
  have hsep := hsep hext
  rcases h.2 with ((⟨h1, h2⟩ | ⟨h1, h2⟩) | ⟨h1, h2⟩) | ⟨h1, h2⟩
  · refine ⟨Qu_appl S p1 p2 (fun b hb => Qu_new h1 hu hb), fun hv => ⟨(Qu_appl S p3 (fun t ht he => p2 t he ht) (fun b hb => Qu_new h2 hv hb)).2 hu, appl_comm st p2 u v fun p q hp hq e => ?_⟩⟩
    have a1 := (Qu_new h1 hu hp).1
    have a2 := (Qu_new h2 hv hq).1
    exact p2 _ a1 (by rw [a2, e])
  · rw [hext] at h1; cases h1
  · refine ⟨Qu_appl S p1 p2 (fun b hb => Qu_new h1 hu hb), fun hv => ⟨Qu_move p3 (fun b hb => ?_) hu, appl_comm st p2 u v fun p q hp hq e => ?_⟩⟩
    · obtain ⟨ta, a1, a2, a3⟩ := store_target h2 hv hb
      exact ⟨hsep ta b.1 a1 a2, a3⟩
    · obtain ⟨ta, a1, a2, a3⟩ := store_target h2 hv hq
      exact a3 (by rw [← e]; exact (Qu_new h1 hu hp).2)
  · refine ⟨Qu_ext h2 p1, fun hv => ?_⟩
    have hn := ext_none h2 hv
    refine ⟨(Qu_appl S p3 (fun t ht he => p2 t he ht) (fun b hb => by rw [hn] at hb; cases hb)).2 hu, appl_comm st p2 u v fun p q hp hq e => ?_⟩
    rw [hn] at hq; cases hq
def tst (all : List Oper) (i : Nat) : Bool := isTest i (all.drop (i + 1))
def EvAny (Γ : Ctx) (X : Nat → Prop) (F : Root) (w0 : World) (n : Nat) (all : List Oper) (K : St → Prop) : Nat → Array Bool → St → Prop
  | 0, listed, st => Region.ready .any all.toArray listed = [] ∧ K st
  | fuel + 1, listed, st => (Region.ready .any all.toArray listed = [] → K st) ∧ ∀ i ∈ Region.ready .any all.toArray listed, ∀ o, all.toArray[i]? = some o →
      stepE Γ true all (tst all i) o st (fun st' (_ : Unit) => Sup X F w0 n st' → EvAny Γ X F w0 n all K fuel (listed.setIfInBounds i true) st') ()
theorem any_ok {Γ : Ctx} (H : Home P Γ X F w0) {all : List Oper} (hn : ∀ o ∈ all, ∀ d, o.dst = some d → d < n) {K : St → Prop} {Q : Exit → Act → World → Prop} (hQ : ∀ G st a w, EnvR X F w0 n G st a w → K st → Q .normal a w) :
    ∀ (fuel : Nat) (listed : Array Bool) {G : Gh} {st : St} {a : Act} {w : World}, EnvR X F w0 n G st a w → EvAny Γ X F w0 n all K fuel listed st → wpAny P .any all.toArray Q fuel listed a w
  | 0, _, _, _, _, _, E, h => ⟨h.1, hQ _ _ _ _ E h.2⟩
  | fuel + 1, listed, G, st, a, w, E, h => by
    refine ⟨fun h0 => hQ _ _ _ _ E (h.1 h0), fun i hi => ?_⟩
    obtain ⟨_, o, ho, _⟩ := mem_ready.1 hi
    have hs := stepE_ok (Q := Q) H E hn (by simpa using Array.mem_of_getElem? ho) (h.2 i hi o ho)
    exact wpOp_mono (fun a' w' ⟨G', st', E', h'⟩ => any_ok H hn hQ fuel _ E' (h' ⟨G', a', w', E'⟩)) (hs.wpOp ho)
theorem isStore_not_ext {o : Oper} (h : isStore o = true) : isExt o = false := by
  unfold isStore at h
  unfold isExt
  split at h
  · rename_i ho; rw [ho]
  · cases h
theorem storeAt_store {o : Oper} {a : Nat} (h : storeAt o = some a) : isStore o = true := by
  unfold storeAt at h
  unfold isStore
  split at h
  · rename_i ho; rw [ho]
  · cases h
theorem sep_of {ops : Array Oper} {s : Nat → AV} {x y : Oper} (h : pairB ops x y = true) (hs : loud x = false → isStore y = true → Sep s x y) : Sep s x y := by
  intro ta d hta hd
  have hy := storeAt_store hta
  simp only [pairB, Bool.and_eq_true, Bool.or_eq_true, Bool.not_eq_true'] at h
  rcases h.2 with ((⟨h1, _⟩ | ⟨h1, _⟩) | ⟨h1, _⟩) | ⟨_, h2⟩
  · exact hs h1 hy ta d hta hd
  · exact hs (isExt_soft h1) hy ta d hta hd
  · exact hs h1 hy ta d hta hd
  · rw [isStore_not_ext hy] at h2; cases h2
theorem alloc_out {Γ : Ctx} {all : List Oper} {t : Bool} {o : Oper} (ha : isAlloc o = true) {u : U} (h : Qu Γ all t o st u) : refOf u.1 = none ∨ ∃ d, refOf u.1 = some d ∧ st.m d = .none := by
  unfold isAlloc at ha
  split at ha
  · rename_i T ho
    have hl : loud o = false := by unfold loud; rw [ho]
    unfold Qu at h
    rw [tame_hush hl] at h
    split at h
    · unfold evOp at h
      rw [ho] at h
      simp only at h
      split at h
      · cases t
        · obtain ⟨d, h1, h2, rfl⟩ := h
          exact .inr ⟨d, rfl, h2⟩
        · exact h.elim
      · cases t <;> exact h.elim
    · subst h; exact .inl rfl
    · exact h.elim
  · cases ha
theorem sep_keep {Γ : Ctx} {all : List Oper} (S : Sup X F w0 n st) {t : Bool} {x y o : Oper} {v : U} (h3 : ∀ d, o.dst = some d → d ∉ x.looksAt all.toArray) (hv : Qu Γ all t o st v) (hal : ∀ ta, storeAt y = some ta → o.dst = some ta → isAlloc o = true) (h : Sep st.s x y) : Sep (appl st o.dst v).s x y := by
  intro ta d hta hd t' ht'
  have hs : (appl st o.dst v).s t' = st.s t' := by
    show updO st.s o.dst v.1 t' = st.s t'
    cases hod : o.dst with
    | none => rfl
    | some e => exact upd_other _ _ (fun he => h3 e hod (he ▸ mem_tmps _ ht'))
  rw [hs]
  by_cases hod : o.dst = some ta
  · have ha := hal ta hta hod
    have hd : refOf v.1 = some d := by
      have : (appl st o.dst v).s ta = v.1 := by
        show updO st.s o.dst v.1 ta = v.1
        rw [hod]; exact upd_same _ _ _
      rw [this] at hd; exact hd
    intro hr
    rcases alloc_out ha hv with h1 | ⟨e, h1, h2⟩
    · rw [h1] at hd; cases hd
    · rw [h1] at hd
      obtain rfl := Option.some.inj hd
      obtain ⟨G, a, w, E⟩ := S
      exact AR_ref (E.slots t') hr h2
  · have : (appl st o.dst v).s ta = st.s ta := by
      show updO st.s o.dst v.1 ta = st.s ta
      cases hod' : o.dst with
      | none => rfl
      | some e => exact upd_other _ _ (fun he => hod (by rw [hod', he]))
    rw [this] at hd
    exact h ta d hta hd t' ht'
theorem noRef_spec {s : Nat → AV} {d : Nat} : ∀ {l : List Nat}, noRef s d l = true → ∀ t ∈ l, refOf (s t) ≠ some d
  | [], _, t, ht => by cases ht
  | q :: r, h, t, ht => by
    simp only [noRef, Bool.and_eq_true] at h
    rcases List.mem_cons.1 ht with rfl | ht
    · intro hr
      have h1 := h.1
      rw [hr] at h1
      simp at h1
    · exact noRef_spec h.2 t ht
theorem onlyAlloc_spec {a : Nat} : ∀ {l : List Oper}, onlyAlloc a l = true → ∀ o ∈ l, o.dst = some a → isAlloc o = true
  | [], _, o, ho, _ => by cases ho
  | q :: r, h, o, ho, hd => by
    simp only [onlyAlloc, Bool.and_eq_true] at h
    rcases List.mem_cons.1 ho with rfl | ho
    · have h1 := h.1
      rw [hd] at h1
      simpa using h1
    · exact onlyAlloc_spec h.2 o ho hd
theorem sepAll_spec {s : Nat → AV} {k : Nat} {p : Oper} {rest : List Oper} : ∀ {l : List Oper}, sepAll s k p rest l = true → ∀ j ∈ l, (∀ e ∈ j.after, Region.binds .any e = true → e.on ≠ k) → Sep s p j ∧ ∀ ta, storeAt j = some ta → onlyAlloc ta rest = true
  | [], _, j, hj, _ => by cases hj
  | q :: r, h, j, hj, hno => by
    simp only [sepAll, Bool.and_eq_true] at h
    rcases List.mem_cons.1 hj with rfl | hj
    · have h1 := h.1
      have hb : boundTo k j = false := by
        cases hbb : boundTo k j with
        | false => rfl
        | true =>
          unfold boundTo at hbb
          obtain ⟨e, he, hb⟩ := Array.any_eq_true'.1 hbb
          simp only [Bool.and_eq_true, beq_iff_eq] at hb
          exact absurd hb.2 (hno e he hb.1)
      refine ⟨fun ta d hta hd => ?_, fun ta hta => ?_⟩
      · rw [hta] at h1
        simp only [hb, Bool.false_or, Bool.and_eq_true] at h1
        have h2 := h1.1
        rw [hd] at h2
        exact noRef_spec h2
      · rw [hta] at h1
        simp only [hb, Bool.false_or, Bool.and_eq_true] at h1
        exact h1.2
    · exact sepAll_spec h.2 j hj hno
theorem ev_first {Γ : Ctx} (H : Home P Γ X F w0) {all : List Oper} (hn : ∀ o ∈ all, ∀ d, o.dst = some d → d < n) {K : St → Prop} {i : Nat} {oi : Oper} (hi : all.toArray[i]? = some oi) (hli : soft oi = true) {u : U} :
    ∀ (fuel : Nat) (listed : Array Bool) (st : St), Sup X F w0 n st →
      (∀ j oj, all.toArray[j]? = some oj → j ≠ i → listed.getD j true = false → (∀ e ∈ oj.after, Region.binds .any e = true → e.on ≠ i) → pairB all.toArray oi oj = true ∧ (loud oi = false → isExt oi = false → isStore oj = true → Sep st.s oi oj ∧ ∀ ta, storeAt oj = some ta → ∀ k ok, all.toArray[k]? = some ok → k ≠ i → listed.getD k true = false → ok.dst = some ta → isAlloc ok = true)) →
      i ∈ Region.ready .any all.toArray listed → Qu Γ all (tst all i) oi st u →
      EvAny Γ X F w0 n all K fuel (listed.setIfInBounds i true) (appl st oi.dst u) → EvAny Γ X F w0 n all K (fuel + 1) listed st := by
  intro fuel
  induction fuel with
  | zero =>
    intro listed st S _ hr hy h
    refine ⟨fun h0 => (by rw [h0] at hr; cases hr), fun j hj oj hoj => ?_⟩
    by_cases hji : j = i
    · subst hji
      obtain rfl : oi = oj := by rw [hi] at hoj; simpa using hoj
      exact (step_Qu hli).2 ⟨u, hy, fun _ => h⟩
    · have := ready_mono hj hji
      rw [h.1] at this
      cases this
  | succ fuel ih =>
    intro listed st S hfree hr hy h
    refine ⟨fun h0 => (by rw [h0] at hr; cases hr), fun j hj oj hoj => ?_⟩
    by_cases hji : j = i
    · subst hji
      obtain rfl : oi = oj := by rw [hi] at hoj; simpa using hoj
      exact (step_Qu hli).2 ⟨u, hy, fun _ => h⟩
    · have h1 := h.2 j (ready_mono hj hji) oj hoj
      obtain ⟨hjun, oj', hoj', hall⟩ := mem_ready.1 hj
      obtain rfl : oj = oj' := by rw [hoj] at hoj'; simpa using hoj'
      have hnot : ∀ e ∈ oj.after, Region.binds .any e = true → e.on ≠ i := fun e he hb heq => by
        have h1 := hall e he hb
        have h0 := (mem_ready.1 hr).1
        rw [heq] at h1
        rcases Nat.lt_or_ge i listed.size with h' | h'
        · simp [h'] at h0 h1; rw [h0] at h1; cases h1
        · simp [Array.getElem?_eq_none h'] at h1
      obtain ⟨hp, hsp⟩ := hfree j oj hoj hji hjun hnot
      have hlj := (pair_soft hp).2
      have hsep : isExt oi = false → Sep st.s oi oj := fun he => sep_of hp fun h1 h2 => (hsp h1 he h2).1
      obtain ⟨v, hv, hK⟩ := (step_Qu hlj).1 h1
      obtain ⟨q1, q2⟩ := pair_ok (t' := tst all j) (v := v) S hp hsep hy
      have hv' : Qu Γ all (tst all j) oj st v := q1.1 hv
      obtain ⟨hy', hcomm⟩ := q2 hv'
      have hmi : oi ∈ all := by simpa using Array.mem_of_getElem? hi
      refine (step_Qu hlj).2 ⟨v, hv', fun S' => ih (listed.setIfInBounds j true) _ S' (fun k ok hk hki hun hno => ?_) (ready_mono hr (Ne.symm hji)) hy' ?_⟩
      · have hun' : ∀ k, (listed.setIfInBounds j true).getD k true = false → listed.getD k true = false := by
          intro k hk
          by_cases hjk : j = k
          · subst hjk; exact hjun
          · rw [getD_set_ne true hjk] at hk; exact hk
        obtain ⟨a1, a2⟩ := hfree k ok hk hki (hun' k hun) hno
        refine ⟨a1, fun b1 b0 b2 => ?_⟩
        obtain ⟨c1, c2⟩ := a2 b1 b0 b2
        refine ⟨sep_keep S (Oper.apart_spec (by simp only [pairB, Bool.and_eq_true] at hp; exact hp.1)).2.2 hv' (fun ta hta hd => c2 ta hta j oj hoj hji hjun hd) c1, fun ta hta k' ok' h1 h2 h3 => c2 ta hta k' ok' h1 h2 (hun' k' h3)⟩
      · rw [Array.setIfInBounds_comm _ _ hji, ← hcomm]
        refine hK ?_
        rw [hcomm]
        exact Sup_step H hn S' hmi hli hy'
/-- May it be taken first? -/
def freeL (ops : Array Oper) (listed : Array Bool) (i : Nat) : Bool :=
  match ops[i]? with
  | none => false
  | some oi => (List.range ops.size).all fun j => j == i || listed.getD j true || match ops[j]? with
      | some oj => oj.after.any (fun e => Region.binds .any e && e.on == i) || pairB ops oi oj
      | none => true
theorem freeL_spec {ops : Array Oper} {i : Nat} {oi : Oper} {listed : Array Bool} (hi : ops[i]? = some oi) (h : freeL ops listed i = true) (j : Nat) (oj : Oper)
    (hj : ops[j]? = some oj) (hne : j ≠ i) (hun : listed.getD j true = false) (hno : ∀ e ∈ oj.after, Region.binds .any e = true → e.on ≠ i) : pairB ops oi oj = true := by
  simp only [freeL, hi, List.all_eq_true, List.mem_range] at h
  have h1 := h j (Array.getElem?_eq_some_iff.1 hj).1
  simp only [hj, Bool.or_eq_true, beq_iff_eq, hne, false_or, hun, Bool.false_eq_true] at h1
  rcases h1 with h1 | h1
  · obtain ⟨e, he, hb⟩ := Array.any_eq_true'.1 h1
    simp only [Bool.and_eq_true, beq_iff_eq] at hb
    exact absurd hb.2 (hno e he hb.1)
  · exact h1
def lexL (ops : Array Oper) : Nat → Nat → Array Bool → Bool
  | 0, _, listed => (Region.ready .any ops listed).isEmpty
  | fuel + 1, k, listed => (Region.ready .any ops listed).contains k && freeL ops listed k && lexL ops fuel (k + 1) (listed.setIfInBounds k true)
theorem stepE_mono {ρ : Type} {Γ : Ctx} {dr : Bool} {all : List Oper} {t : Bool} {o : Oper} {K : St → M ρ} {K' : St → M Unit} {r : ρ} (h : ∀ st, K st r → K' st ()) (hh : stepE Γ dr all t o st K r) : stepE Γ dr all t o st K' () := by
  have hres : ∀ res : Res, runRes o.dst st K res r → runRes o.dst st K' res () := by
    intro res
    induction res with
    | fail => exact id
    | put v => simp only [runRes, force_eq]; exact h _
    | ite p d res ih =>
      simp only [runRes]
      by_cases hp : p
      · rw [if_pos hp, if_pos hp]; exact ih
      · rw [if_neg hp]; exact fun h => h.elim
    | call res tup m kill => simp only [runRes]; exact fun ⟨y, hy, hk⟩ => ⟨y, hy, h _ hk⟩
    | callOwn ty m =>
      simp only [runRes]
      intro h1
      cases hd : o.dst with
      | none => rw [hd] at h1; exact h1.elim
      | some d =>
        rw [hd] at h1
        simp only at h1 ⊢
        cases hm : st.m d <;> rw [hm] at h1 <;> first | exact h1.elim | skip
        obtain ⟨y, hy, hk⟩ := h1
        exact ⟨y, hy, h _ hk⟩
    | callRow ty res m d app f => simp only [runRes]; exact fun ⟨y, hy, hk⟩ => ⟨y, hy, h _ hk⟩
    | callBox ty res m d off l => simp only [runRes, forceL_eq]; exact fun ⟨y, hy, hk⟩ => ⟨y, hy, by simpa only [forceL_eq] using h _ hk⟩
    | alloc isP b =>
      simp only [runRes]
      intro h1
      cases hd : o.dst with
      | none => rw [hd] at h1; exact h1.elim
      | some d =>
        rw [hd] at h1
        simp only at h1 ⊢
        cases hm : st.m d <;> rw [hm] at h1 <;> first | exact h1.elim | skip
        simp only at h1 ⊢
        rw [MBforce_eq] at h1 ⊢
        cases isP <;> exact h _ h1
    | app base ty l kill =>
      simp only [runRes]
      intro h1
      cases hd : o.dst with
      | none => rw [hd] at h1; exact h1.elim
      | some d =>
        rw [hd] at h1
        simp only at h1 ⊢
        cases hm : st.m d <;> rw [hm] at h1 <;> first | exact h1.elim | skip
        exact h _ h1
    | upd d b => simp only [runRes, MBforce_eq]; exact h _
  have htest : ∀ res : Res, runTest o.dst st K res r → runTest o.dst st K' res () := by
    intro res h1
    obtain ⟨u, hu, hk⟩ := outT_run.1 h1
    exact outT_run.2 ⟨u, hu, h _ hk⟩
  have hrun : ∀ res : Res, runE t o.dst st K res r → runE t o.dst st K' res () := by
    intro res
    cases t
    · exact hres res
    · exact htest res
  unfold stepE at hh ⊢
  cases hg : o.guard with
  | none => rw [hg] at hh; exact hrun _ hh
  | some g =>
    rw [hg] at hh
    simp only at hh ⊢
    cases hd : nthDst all g.1 with
    | none => rw [hd] at hh; exact hh.elim
    | some d =>
      rw [hd] at hh
      simp only at hh ⊢
      cases hs : st.s d with
      | t ty b =>
        rw [hs] at hh
        cases ty <;> first | exact hh.elim | skip
        simp only at hh ⊢
        cases hb : b == g.2 with
        | true => rw [hb] at hh; exact hrun _ hh
        | false => rw [hb] at hh; exact h _ hh
      | undef => rw [hs] at hh; exact h _ hh
      | _ => rw [hs] at hh; exact hh.elim
theorem ev_lex {Γ : Ctx} (H : Home P Γ X F w0) {all : List Oper} (hn : ∀ o ∈ all, ∀ d, o.dst = some d → d < n) {ρ : Type} {K : St → M ρ} {r : ρ} :
    ∀ (rest : List Oper) (k : Nat) (listed : Array Bool) (st : St), rest = all.drop k → (∀ j, listed.getD j true = false → k ≤ j) → Sup X F w0 n st → lexL all.toArray rest.length k listed = true → evOps Γ true all K rest k st r →
      EvAny Γ X F w0 n all (fun st => K st r) rest.length listed st
  | [], k, listed, st, _, _, _, hB, h => ⟨by simpa [lexL] using hB, h⟩
  | o :: rest, k, listed, st, hk, hlst, S, hB, h => by
    have h0 : all.toArray[k]? = some o := by
      have : all[k]? = (all.drop k)[0]? := by simp
      rw [List.getElem?_toArray, this, ← hk]; rfl
    have hrest : rest = all.drop (k + 1) := by
      have := congrArg List.tail hk
      simpa using this
    have ho : o ∈ all := by simpa using Array.mem_of_getElem? h0
    simp only [List.length_cons, lexL, Bool.and_eq_true] at hB
    obtain ⟨⟨hr, hf⟩, hB'⟩ := hB
    have hr : k ∈ Region.ready .any all.toArray listed := by simpa using hr
    have hsp := freeL_spec h0 hf
    rw [evOps_cons] at h
    have ht : isTest k rest = tst all k := by unfold tst; rw [hrest]
    rw [ht] at h
    have hlst' : ∀ j, (listed.setIfInBounds k true).getD j true = false → k + 1 ≤ j := by
      intro j hj
      by_cases hjk : k = j
      · subst hjk
        exfalso
        rcases Nat.lt_or_ge k listed.size with h' | h'
        · simp [Array.getD_eq_getD_getElem?, h'] at hj
        · simp [Array.getD_eq_getD_getElem?, h'] at hj
      · rw [getD_set_ne true hjk] at hj
        have := hlst j hj
        omega
    have hchk : (true && !loud o && !(isExt o || sepAll st.s k o rest rest)) = false := by
      cases hc : (true && !loud o && !(isExt o || sepAll st.s k o rest rest)) with
      | false => rfl
      | true => rw [hc] at h; exact h.elim
    rw [hchk] at h
    simp only at h
    have hmem : ∀ j oj, all.toArray[j]? = some oj → j ≠ k → listed.getD j true = false → oj ∈ rest := by
      intro j oj hj hne hun
      have h1 := hlst j hun
      rw [hrest]
      rw [List.getElem?_toArray] at hj
      have : (all.drop (k + 1))[j - (k + 1)]? = some oj := by rw [List.getElem?_drop, show k + 1 + (j - (k + 1)) = j by omega]; exact hj
      exact List.mem_of_getElem? this
    cases hl : soft o with
    | true =>
      obtain ⟨u, hu, hK⟩ := (step_Qu hl).1 h
      exact ev_first H hn h0 hl rest.length listed st S (fun j oj a1 a2 a3 a4 => ⟨hsp j oj a1 a2 a3 a4, fun b1 b0 b2 => by
          have hall : sepAll st.s k o rest rest = true := by rw [b1, b0] at hchk; simpa using hchk
          obtain ⟨c1, c2⟩ := sepAll_spec hall oj (hmem j oj a1 a2 a3) a4
          exact ⟨c1, fun ta hta k' ok' d1 d2 d3 d4 => onlyAlloc_spec (c2 ta hta) ok' (hmem k' ok' d1 d2 d3) d4⟩⟩) hr hu
        (ev_lex H hn rest (k + 1) _ _ hrest hlst' (Sup_step H hn S ho hl hu) hB' hK)
    | false =>
      refine ⟨fun h1 => (by rw [h1] at hr; cases hr), fun j hj oj hoj => ?_⟩
      have hjk : j = k := by
        apply Classical.byContradiction
        intro hjk
        obtain ⟨hjun, oj', hoj', hall⟩ := mem_ready.1 hj
        obtain rfl : oj = oj' := by rw [hoj] at hoj'; simpa using hoj'
        have hnot : ∀ e ∈ oj.after, Region.binds .any e = true → e.on ≠ k := fun e he hb heq => by
          have h1 := hall e he hb
          have h0 := (mem_ready.1 hr).1
          rw [heq] at h1
          rcases Nat.lt_or_ge k listed.size with h' | h'
          · simp [h'] at h0 h1; rw [h0] at h1; cases h1
          · simp [Array.getElem?_eq_none h'] at h1
        have := (pair_soft (hsp j oj hoj hjk hjun hnot)).1
        rw [hl] at this; cases this
      subst hjk
      obtain rfl : o = oj := by rw [h0] at hoj; simpa using hoj
      exact stepE_mono (fun st' hK S' => ev_lex H hn rest (j + 1) _ _ hrest hlst' S' hB' hK) h
theorem draw_ok {Γ : Ctx} (H : Home P Γ X F w0) (hm : P.follows .mixedOrders = true) {ops : Array Oper} {id : Nat} (hn : ∀ o ∈ ops.toList, ∀ d, o.dst = some d → d < n) (hB : lexL ops ops.size 0 (Array.replicate ops.size false) = true)
    {ρ : Type} {K : St → M ρ} {r : ρ} {Q : Exit → Act → World → Prop} (hQ : ∀ G st a w, EnvR X F w0 n G st a w → K st r → Q .normal a w) (E : EnvR X F w0 n G st a w) (h : evOps Γ true ops.toList K ops.toList 0 st r) : (Code.region id ops true).wp P Q a w := by
  refine wp_region_any hm ?_
  have E' : EnvR X F w0 n G st a { w with drawn := w.drawn + 1 } := (E.grows (Grows.drew w)).1
  have := any_ok H hn (Q := Q) (K := fun st => K st r) hQ ops.toList.length (Array.replicate ops.size false) E' (ev_lex H hn ops.toList 0 _ st rfl (fun _ _ => Nat.zero_le _) ⟨G, a, w, E⟩ (by simpa using hB) h)
  simpa using this
end Go.Proofs.YtlnbcpcnpofnoaaGreatDoor.E

/- Where ways meet: the state that goes on. -/
namespace Go.Proofs.YtlnbcpcnpofnoaaGreatDoor.E
open Go Go.RowKit
set_option linter.unusedVariables false
set_option linter.unusedSimpArgs false

variable {P : Program} {X : Nat → Prop} {F : Root} {w0 : World} {n : Nat} {G : Gh} {st : St} {a : Act} {w : World} {o : Oper}

structure MetInv (F : Root) (st : St) (G : Gh) (own : Nat → Prop) (l : List (Nat × LK)) (S : St) (G' : Gh) (a : Act) (w : World) : Prop where
  slots : ∀ t, AR w own G'.β S.m (S.s t) (a.tmps.getD t undef)
  mems : ∀ d, MR w own G' S.m d
  src : ∀ d g, blk G'.β S.m d = some g → ∃ e ∈ metRow st l, blk G.β st.m e = some g
  disj : ∀ d d' g, blk G'.β S.m d = some g → blk G'.β S.m d' = some g → d = d'
  out : ∀ d, d ∉ l.map (·.1) → S.m d = .none
  root : ∀ d, isRoot (S.m d) = true → G'.β d = F.v ∧ G'.π d = F.π
theorem met_val {own : Nat → Prop} {l : List (Nat × LK)} {S : St} {G' : Gh} (I : MetInv F st G own l S G' a w) {d : Nat} {t : Ty} {x : t.D} (hv : VR w own t x (a.tmps.getD d undef)) :
    MetInv F st G own ((d, .val t) :: l) (S.put (some d) (.t t x)) G' a w := by
  refine ⟨fun u => ?_, I.mems, I.src, I.disj, fun e he => I.out e (fun h => he (by simp at h ⊢; exact .inr h)), I.root⟩
  rw [St.put_m, St.put_s]
  by_cases e : u = d
  · simp only [e, if_true]; exact hv
  · simp only [e, if_false]; exact I.slots u
theorem met_new {own : Nat → Prop} {l : List (Nat × LK)} {S : St} {G' : Gh} (I : MetInv F st G own l S G' a w) {d : Nat} {k : LK} {b : MB} {x : AV} {v : Value} {p : List Value × List Value} (hd : d ∉ l.map (·.1))
    (hM : MR w own ⟨upd G'.β d v, upd G'.π d p⟩ (upd S.m d b) d) (hx : AR w own (upd G'.β d v) (upd S.m d b) x (a.tmps.getD d undef))
    (hb : ∀ g, blk (upd G'.β d v) (upd S.m d b) d = some g → ∃ e, e ∈ metRow st ((d, k) :: l) ∧ e ∉ metRow st l ∧ blk G.β st.m e = some g) (hs : ∀ e ∈ metRow st l, e ∈ metRow st ((d, k) :: l))
    (hdis : ∀ e e' g, blk G.β st.m e = some g → blk G.β st.m e' = some g → e = e') (hrt : isRoot b = true → v = F.v ∧ p = F.π) :
    MetInv F st G own ((d, k) :: l) ((S.put (some d) x).set d b) ⟨upd G'.β d v, upd G'.π d p⟩ a w := by
  have hnone := I.out d hd
  have A : Agree w w own own := ⟨fun _ _ _ => rfl, fun _ _ h => h⟩
  have hβ : ∀ e, ¬ dead (S.m e) → upd G'.β d v e = G'.β e := by
    intro e he
    by_cases h : e = d
    · subst h; rw [hnone] at he; exact absurd trivial he
    · exact upd_other _ _ h
  have hl : ∀ e, Later (S.m e) (upd S.m d b e) := by
    intro e
    by_cases h : e = d
    · subst h; rw [hnone]; trivial
    · rw [upd_other _ _ h]; exact Later.refl _
  have hblk : ∀ e, e ≠ d → blk (upd G'.β d v) (upd S.m d b) e = blk G'.β S.m e := by
    intro e he; unfold blk; rw [upd_other _ _ he, upd_other _ _ he]
  rw [put_set]
  refine ⟨fun u => ?_, fun e => ?_, fun e g h => ?_, fun e e' g h h' => ?_, fun e he => ?_, fun e hr => ?_⟩
  · rw [St.put_m, St.put_s]
    by_cases e : u = d
    · subst e; simp only [if_true]; exact hx
    · simp only [e, if_false]; exact AR_mono A hβ hl (I.slots u)
  · rw [St.put_m]
    by_cases he : e = d
    · subst he; exact hM
    · exact MR_mono A hβ hl (upd_other _ _ he) (upd_other _ _ he) (upd_other _ _ he) (fun _ _ => rfl) (I.mems e)
  · rw [St.put_m] at h
    by_cases he : e = d
    · subst he
      obtain ⟨e', h1, _, h2⟩ := hb g h
      exact ⟨e', h1, h2⟩
    · have h : blk (upd G'.β d v) (upd S.m d b) e = some g := h
      rw [hblk e he] at h
      obtain ⟨e', h1, h2⟩ := I.src e g h
      exact ⟨e', hs e' h1, h2⟩
  · rw [St.put_m] at h h'
    have h : blk (upd G'.β d v) (upd S.m d b) e = some g := h
    have h' : blk (upd G'.β d v) (upd S.m d b) e' = some g := h'
    by_cases he : e = d <;> by_cases he' : e' = d
    · rw [he, he']
    · subst he
      rw [hblk e' he'] at h'
      obtain ⟨f, _, h1, h2⟩ := hb g h
      obtain ⟨f', h3, h4⟩ := I.src e' g h'
      exact absurd (hdis f f' g h2 h4 ▸ h3) h1
    · subst he'
      rw [hblk e he] at h
      obtain ⟨f, _, h1, h2⟩ := hb g h'
      obtain ⟨f', h3, h4⟩ := I.src e g h
      exact absurd (hdis f f' g h2 h4 ▸ h3) h1
    · rw [hblk e he] at h; rw [hblk e' he'] at h'; exact I.disj e e' g h h'
  · rw [St.put_m]
    simp only [List.map_cons, List.mem_cons, not_or] at he
    show upd S.m d b e = .none
    rw [upd_other _ _ he.1]; exact I.out e he.2
  · rw [St.put_m] at hr
    have hr : isRoot (upd S.m d b e) = true := hr
    show upd G'.β d v e = _ ∧ upd G'.π d p e = _
    by_cases he : e = d
    · subst he; rw [upd_same] at hr; rw [upd_same, upd_same]; exact hrt hr
    · rw [upd_other _ _ he] at hr; rw [upd_other _ _ he, upd_other _ _ he]; exact I.root e hr
theorem at_rows (x : AV) (m : Nat → MB) : ∀ d ∈ rowsOf [(x.at m).1], d ∈ rowsOf [x] := by
  intro d hd
  cases x <;> simp only [AV.at] at hd <;> first | exact hd | skip
  all_goals (split at hd <;> first | exact hd | (simp [rowsOf] at hd))
theorem capCells_R (E : EnvR X F w0 n G st a w) {own : Nat → Prop} (hsub : ∀ g, own g → Own X G.β st.m g) {β : Nat → Value} {m : Nat → MB} : ∀ {l : List AV} {ts : List Ty} {x : (tysTy ts).D} {cs : List Value}, capCells st.m l ts = some x →
    All2 (AR w (Own X G.β st.m) G.β st.m) l cs → Free G.β st.m own (rowsOf l) → All2 (AR w own β m) (uncells ts x) cs
  | [], [], x, cs, h, hc, _ => by cases cs <;> first | exact hc.elim | trivial
  | [v], [t], x, [], h, hc, _ => hc.elim
  | [v], [t], x, [c], h, ⟨hv, _⟩, hf => by
    simp only [capCells] at h
    exact ⟨asOne_VR E.mems (at_LR E.mems hv) h hsub (hf.sub (at_rows v st.m)), trivial⟩
  | [v], [t], x, _ :: _ :: _, h, hc, _ => hc.2.elim
  | v :: u :: r, t :: q :: ts, x, [], h, hc, _ => hc.elim
  | v :: u :: r, t :: q :: ts, x, c :: cs, h, ⟨hv, hr⟩, hf => by
    simp only [capCells] at h
    split at h
    · rename_i y z h1 h2
      obtain rfl := Option.some.inj h
      exact ⟨asOne_VR E.mems (at_LR E.mems hv) h1 hsub (fun d hd => hf d (rowsOf_cons v _ d (at_rows v st.m d hd))), capCells_R E hsub h2 hr (hf.sub (rowsOf_tail v _))⟩
    · cases h
  | [], _ :: _, x, cs, h, hc, _ => by simp [capCells] at h
  | _ :: _, [], x, cs, h, hc, _ => by simp [capCells] at h
  | [_], _ :: _ :: _, x, cs, h, hc, _ => by simp [capCells] at h
  | _ :: _ :: _, [_], x, cs, h, hc, _ => by simp [capCells] at h
/-- What the whole list writes on. -/
def OwnM (X : Nat → Prop) (G : Gh) (st : St) (L : List (Nat × LK)) (g : Nat) : Prop := X g ∨ ∃ e ∈ metRow st L, blk G.β st.m e = some g
theorem apartB_not {vals : List Nat} : ∀ {rows : List Nat}, apartB vals rows = true → ∀ d ∈ rows, d ∉ vals
  | [], _, _, h => by cases h
  | n :: r, h, d, hd => by
    simp only [apartB, Bool.and_eq_true, Bool.not_eq_true'] at h
    rcases List.mem_cons.1 hd with rfl | hd
    · exact memN_false h.1.2
    · exact apartB_not h.2 d hd
theorem met_head (E : EnvR X F w0 n G st a w) {L l : List (Nat × LK)} {d : Nat} {k : LK} (hrow : ∀ e ∈ metRow st ((d, k) :: l), e ∈ metRow st L) (hval : ∀ e ∈ metVal st ((d, k) :: l), e ∈ metVal st L)
    (hap : apartB (metVal st L) (metRow st ((d, k) :: l)) = true) (hapL : apartB (metVal st L) (metRow st L) = true) (hd : d ∉ l.map (·.1)) {S : St} {G' : Gh} (I : MetInv F st G (OwnM X G st L) l S G' a w) {x : k.ty.D} (hx : capOne st d k = some x) :
    ∃ G'', MetInv F st G (OwnM X G st L) ((d, k) :: l) (restOne S d k x) G'' a w := by
  have hsub : ∀ g, OwnM X G st L g → Own X G.β st.m g := by
    rintro g (h | ⟨e, _, h⟩)
    · exact .inl h
    · exact .inr ⟨e, h⟩
  have hfree : ∀ ds : List Nat, (∀ e ∈ ds, e ∈ metVal st L) → Free G.β st.m (OwnM X G st L) ds := by
    intro ds hds e he g hg h
    rcases h with h | ⟨f, hf, hfg⟩
    · exact E.notX e g hg h
    · have := E.disj e f g hg hfg
      subst this
      exact apartB_not hapL e hf (hds e he)
  have A : Agree w w (Own X G.β st.m) (OwnM X G st L) := ⟨fun _ _ _ => rfl, fun g _ h => hsub g h⟩
  have hslot := E.slots d
  cases k with
  | val t =>
    simp only [capOne] at hx
    refine ⟨G', met_val I (asOne_VR E.mems (at_LR E.mems hslot) hx hsub (hfree _ fun e he => hval e ?_))⟩
    simp only [metVal]
    exact List.mem_append.2 (.inl (at_rows _ _ e he))
  | own app t =>
    simp only [capOne] at hx
    cases hs : st.s d <;> rw [hs] at hx hslot <;> (try simp only at hx) <;> first | (cases hx; done) | skip
    · rename_i ty y
      cases ty <;> simp only at hx <;> first | (cases hx; done) | skip
      cases app <;> simp only at hx <;> first | (cases hx; done) | skip
      obtain rfl := Option.some.inj hx
      have hv := VR_nil hslot
      have hrl : metRow st ((d, .own true t) :: l) = metRow st l := by simp only [metRow, hs]; rfl
      refine ⟨_, met_new I (v := .slice none 0 0) (p := ([], [])) (b := .own true t []) (x := .row d) hd ?_ ?_ ?_ (fun e he => by rw [hrl]; exact he) E.disj (fun h => by cases h)⟩
      · unfold MR; rw [upd_same]; simp only; rw [upd_same]; exact .inl (by simp)
      · simp only [AR]; rw [upd_same]; simp only; rw [upd_same]; exact hv
      · intro g hg
        rw [blk_row (upd_same _ _ _), upd_same] at hg
        simp [headOf] at hg
    · rename_i e
      cases hm : st.m e <;> rw [hm] at hx <;> simp only at hx <;> first | (cases hx; done) | skip
      rename_i b a0 l0
      cases hb : b == app <;> rw [hb] at hx <;> simp only [cond_true, cond_false] at hx <;> first | (cases hx; done) | skip
      have hb : b = app := by simpa using hb
      subst hb
      simp only [asOne] at hx
      split at hx
      · rename_i he; subst he
        obtain rfl := Option.some.inj hx
        have hrl : metRow st ((d, .own b a0) :: l) = e :: metRow st l := by simp only [metRow, hs, rowsOf]; rfl
        have hv : a.tmps.getD d undef = G.β e := by simp only [AR, hm] at hslot; exact hslot
        rw [hrl] at hap hrow
        simp only [apartB, Bool.and_eq_true, Bool.not_eq_true'] at hap
        have hM := E.mems e
        unfold MR at hM; rw [hm] at hM; simp only at hM
        refine ⟨_, met_new I (v := G.β e) (p := G.π e) (b := .own b a0 l0) (x := .row d) hd ?_ ?_ ?_ (fun f hf => by rw [hrl]; exact List.mem_cons.2 (.inr hf)) E.disj (fun h => E.root e (by rw [hm]; cases b <;> first | exact h | cases h))⟩
        · unfold MR; rw [upd_same]; simp only; rw [upd_same, upd_same]
          rcases hM with h | ⟨g, e1, cap, css, post, h1, h2, h3, h4⟩
          · exact .inl h
          · exact .inr ⟨g, e1, cap, css, post, h1, h2, h3.mono fun _ _ h => R_mono A h, h4⟩
        · simp only [AR]; rw [upd_same]; simp only; rw [upd_same]; exact hv
        · intro g hg
          rw [blk_row (upd_same _ _ _), upd_same] at hg
          exact ⟨e, by rw [hrl]; simp, memN_false hap.1.1, by rw [blk_row hm]; exact hg⟩
      · cases hx
  | box ts =>
    simp only [capOne] at hx
    cases hs : st.s d <;> rw [hs] at hx hslot <;> (try simp only at hx) <;> first | (cases hx; done) | skip
    rename_i e off
    cases off <;> simp only at hx <;> first | (cases hx; done) | skip
    cases hm : st.m e <;> rw [hm] at hx <;> simp only at hx <;> first | (cases hx; done) | skip
    rename_i l0
    have hrl : metRow st ((d, .box ts) :: l) = e :: metRow st l := by simp only [metRow, hs]
    have hvl : metVal st ((d, .box ts) :: l) = rowsOf l0 ++ metVal st l := by simp only [metVal, hs, hm]
    have hv : ∃ ad, G.β e = .pointer (some ad) ∧ ad.spot = none ∧ a.tmps.getD d undef = .pointer (some (ad.add 0)) := by simp only [AR, hm] at hslot; exact hslot
    rw [hrl] at hap hrow
    rw [hvl] at hval
    simp only [apartB, Bool.and_eq_true, Bool.not_eq_true'] at hap
    have hM := E.mems e
    unfold MR at hM; rw [hm] at hM; simp only at hM
    obtain ⟨g0, e1, cs, h1, h2, h3, h4⟩ := hM
    refine ⟨_, met_new I (v := G.β e) (p := G.π e) (b := .box (uncells ts x)) (x := .ptr d 0) hd ?_ ?_ ?_ (fun f hf => by rw [hrl]; exact List.mem_cons.2 (.inr hf)) E.disj (fun h => by cases h)⟩
    · unfold MR; rw [upd_same]; simp only; rw [upd_same, upd_same]
      exact ⟨g0, e1, cs, h1, h2, capCells_R E hsub hx h3 (hfree _ fun f hf => hval f (List.mem_append.2 (.inl hf))), h4⟩
    · simp only [AR]; rw [upd_same]; simp only; rw [upd_same]; exact hv
    · intro g hg
      rw [blk_box (upd_same _ _ _), upd_same] at hg
      exact ⟨e, by rw [hrl]; simp, memN_false hap.1.1, by rw [blk_box hm]; exact hg⟩
theorem metRow_tail (st : St) (a : Nat × LK) (l : List (Nat × LK)) : ∃ p, metRow st (a :: l) = p ++ metRow st l := by
  obtain ⟨d, k⟩ := a
  cases k with
  | val t => exact ⟨[], rfl⟩
  | own app t => exact ⟨rowsOf [st.s d], rfl⟩
  | box ts =>
    simp only [metRow]
    split
    · exact ⟨[_], rfl⟩
    · exact ⟨[], rfl⟩
theorem metVal_tail (st : St) (a : Nat × LK) (l : List (Nat × LK)) : ∃ p, metVal st (a :: l) = p ++ metVal st l := by
  obtain ⟨d, k⟩ := a
  cases k with
  | val t => exact ⟨rowsOf [st.s d], rfl⟩
  | own app t => exact ⟨[], rfl⟩
  | box ts =>
    simp only [metVal]
    split
    · split
      · exact ⟨_, rfl⟩
      · exact ⟨[], rfl⟩
    · exact ⟨[], rfl⟩
theorem apartB_tail {vals : List Nat} : ∀ {p q : List Nat}, apartB vals (p ++ q) = true → apartB vals q = true
  | [], _, h => h
  | n :: p, q, h => by
    simp only [List.cons_append, apartB, Bool.and_eq_true] at h
    exact apartB_tail h.2
theorem met_all (E : EnvR X F w0 n G st a w) {L : List (Nat × LK)} (hapL : apartB (metVal st L) (metRow st L) = true) : ∀ (l : List (Nat × LK)) {x : (liveTy l).D}, (∀ e ∈ metRow st l, e ∈ metRow st L) → (∀ e ∈ metVal st l, e ∈ metVal st L) →
    apartB (metVal st L) (metRow st l) = true → nodupB l = true → capture st l = some x → ∃ G', MetInv F st G (OwnM X G st L) l (restore l x st0) G' a w := by
  have base : MetInv F st G (OwnM X G st L) [] st0 ⟨fun _ => undef, fun _ => ([], [])⟩ a w :=
    ⟨fun _ => trivial, fun _ => trivial, fun d g h => by simp [blk, st0] at h, fun d d' g h => by simp [blk, st0] at h, fun _ _ => rfl, fun d h => by cases h⟩
  intro l
  induction l with
  | nil => intro x _ _ _ _ _; exact ⟨_, base⟩
  | cons b l ih =>
    intro x hr hv hap hnd hx
    obtain ⟨d, k⟩ := b
    obtain ⟨p, hp⟩ := metRow_tail st (d, k) l
    obtain ⟨q, hq⟩ := metVal_tail st (d, k) l
    simp only [nodupB, Bool.and_eq_true, Bool.not_eq_true'] at hnd
    have hd := memN_false hnd.1
    cases l with
    | nil => exact met_head E hr hv hap hapL hd base hx
    | cons c r =>
      simp only [capture] at hx
      split at hx
      · rename_i y z h1 h2
        obtain rfl := Option.some.inj hx
        obtain ⟨G', I⟩ := ih (fun e he => hr e (by rw [hp]; exact List.mem_append.2 (.inr he))) (fun e he => hv e (by rw [hq]; exact List.mem_append.2 (.inr he))) (by rw [hp] at hap; exact apartB_tail hap) hnd.2 h2
        exact met_head E hr hv hap hapL hd I h1
      · cases hx
theorem catch_ok (E : EnvR X F w0 n G st a w) {ρ : Type} {l : List (Nat × LK)} {K : (liveTy l).D → M ρ} {r : ρ} (h : catch_ l st K r) : ∃ x G', K x r ∧ EnvR X F w0 n G' (restore l x st0) a w := by
  unfold catch_ at h
  cases hb : (apartB (metVal st l) (metRow st l) && nodupB l) with
  | false => rw [hb] at h; exact h.elim
  | true =>
    rw [hb] at h
    simp only at h
    simp only [Bool.and_eq_true] at hb
    cases hx : capture st l with
    | none => rw [hx] at h; exact h.elim
    | some x =>
      rw [hx] at h
      simp only at h
      obtain ⟨G', I⟩ := met_all E hb.1 l (fun _ h => h) (fun _ h => h) hb.1 hb.2 hx
      have A : Agree w w (OwnM X G st l) (Own X G'.β (restore l x st0).m) := by
        refine ⟨fun _ _ _ => rfl, fun g _ ho => ?_⟩
        rcases ho with ho | ⟨d, hd⟩
        · exact .inl ho
        · exact .inr (I.src d g hd)
      refine ⟨x, G', h, ⟨fun t => AR_mono A (fun _ _ => rfl) (fun _ => Later.refl _) (I.slots t), fun d => MR_mono A (fun _ _ => rfl) (fun _ => Later.refl _) rfl rfl rfl (fun _ _ => rfl) (I.mems d), I.disj, ?_, ?_, E.xlt, E.defers, E.size, E.os, E.tape, E.output, E.grown, E.keep, I.root⟩⟩
      · intro d g hd
        obtain ⟨e, _, he⟩ := I.src d g hd
        exact E.notX e g he
      · intro d g hd
        obtain ⟨e, _, he⟩ := I.src d g hd
        exact E.fresh e g he
end Go.Proofs.YtlnbcpcnpofnoaaGreatDoor.E

/- Code: what the evaluator says of it, it does. -/
namespace Go.Proofs.YtlnbcpcnpofnoaaGreatDoor.E
open Go Go.RowKit
set_option linter.unusedVariables false
set_option linter.unusedSimpArgs false

variable {P : Program} {X : Nat → Prop} {F : Root} {w0 : World} {n : Nat} {G : Gh} {st : St} {a : Act} {w : World} {o : Oper}

def dstsB (n : Nat) : List Oper → Bool
  | [] => true
  | o :: r => (match o.dst with | some d => Nat.blt d n | none => true) && dstsB n r
theorem dstsB_spec {n : Nat} : ∀ {l : List Oper}, dstsB n l = true → ∀ o ∈ l, ∀ d, o.dst = some d → d < n
  | [], _, o, ho, _, _ => by cases ho
  | q :: r, h, o, ho, d, hd => by
    simp only [dstsB, Bool.and_eq_true] at h
    rcases List.mem_cons.1 ho with rfl | ho
    · rw [hd] at h; simpa [Nat.blt_eq] using h.1
    · exact dstsB_spec h.2 o ho d hd
/-- What is asked of a function's code ahead of any run: places, and orders that may be drawn. -/
def goodC (n : Nat) : Code → Bool
  | .region _ ops dr => dstsB n ops.toList && (!dr || lexL ops ops.size 0 (Array.replicate ops.size false))
  | .seq a b => goodC n a && goodC n b
  | .cond _ a b => goodC n a && goodC n b
  | .block _ a => goodC n a
  | .loop a => goodC n a
  | .scope a => goodC n a
  | _ => true
def Leads (X : Nat → Prop) (F : Root) (w0 : World) (n : Nat) {ρ : Type} (Q : Kont ρ) (r : ρ) (R : Exit → Act → World → Prop) : Prop :=
  ∀ G st a w, EnvR X F w0 n G st a w → (Q .normal st r → R .normal a w) ∧ (∀ i, Q (.exit i) st r → R (.exit i) a w) ∧ (Q .ret st r → R .ret a w)
theorem ev_AR (E : EnvR X F w0 n G st a w) (x : Operand) : AR w (Own X G.β st.m) G.β st.m (st.ev x) (a.eval x) := by
  cases x with
  | tmp t => exact E.slots t
  | const v => exact ofValue_AR v
  | global g => rfl
  | func f => trivial
theorem code_ok {Γ : Ctx} (H : Home P Γ X F w0) (hm : P.follows .mixedOrders = true) {A : Live} : ∀ (c : Code), goodC n c = true → ∀ {ρ : Type} {Q : Kont ρ} {R : Exit → Act → World → Prop} {r : ρ} {G : Gh} {st : St} {a : Act} {w : World},
    Leads X F w0 n Q r R → EnvR X F w0 n G st a w → evCode Γ A c st Q r → c.wp P R a w := by
  intro c
  induction c with
  | skip => intro _ ρ Q R r G st a w hR E h; exact wp_skip ((hR G st a w E).1 h)
  | region id ops dr =>
    intro hg ρ Q R r G st a w hR E h
    simp only [goodC, Bool.and_eq_true, Bool.or_eq_true, Bool.not_eq_true'] at hg
    have hn := dstsB_spec hg.1
    cases dr
    · exact region_ok H hn (fun G st a w E h => (hR G st a w E).1 h) E h
    · exact draw_ok H hm hn (hg.2.resolve_left (by simp)) (fun G st a w E h => (hR G st a w E).1 h) E h
  | seq x y ihx ihy =>
    intro hg ρ Q R r G st a w hR E h
    simp only [goodC, Bool.and_eq_true] at hg
    refine wp_seq ?_
    simp only [evCode] at h
    cases hA : A (2 * headId y + 1) with
    | none =>
      rw [hA] at h
      refine ihx hg.1 (Q := Kont.thn (fun st' => evCode Γ A y st' Q) Q) (R := Exit.then (y.wp P R) R) (fun G' st' a' w' E' => ⟨fun h' => ihy hg.2 hR E' h', fun i h' => (hR _ _ _ _ E').2.1 i h', fun h' => (hR _ _ _ _ E').2.2 h'⟩) E h
    | some l =>
      rw [hA] at h
      refine ihx hg.1 (Q := Kont.thn (fun st' => catch_ l st' (joinM fun x => evCode Γ A y (restore l x st0) Q)) Q) (R := Exit.then (y.wp P R) R) (fun G' st' a' w' E' => ⟨fun h' => ?_, fun i h' => (hR _ _ _ _ E').2.1 i h', fun h' => (hR _ _ _ _ E').2.2 h'⟩) E h
      obtain ⟨x', G'', hx', E''⟩ := catch_ok E' h'
      exact ihy hg.2 hR E'' hx'
  | cond c x y ihx ihy =>
    intro hg ρ Q R r G st a w hR E h
    simp only [goodC, Bool.and_eq_true] at hg
    have hc := ev_AR E c
    simp only [evCode] at h
    cases hv : st.ev c <;> rw [hv] at h hc <;> (try simp only at h) <;> first | (exact h.elim) | skip
    · rename_i ty b
      cases ty <;> (try simp only at h) <;> first | (exact h.elim) | skip
      have hb := VR_bool hc
      obtain ⟨b, rfl⟩ : ∃ b' : Bool, b' = b := ⟨b, rfl⟩
      cases b
      · rw [if_neg (by simp)] at h
        exact wp_cond_false hb (ihy hg.2 hR E h)
      · rw [if_pos rfl] at h
        exact wp_cond_true hb (ihx hg.1 hR E h)
    · rename_i p d
      simp only [AR] at hc
      by_cases hp : p
      · rw [if_pos hp] at h
        exact wp_cond_true (by rw [hc, decide_eq_true hp]) (ihx hg.1 hR E h)
      · rw [if_neg hp] at h
        exact wp_cond_false (by rw [hc, decide_eq_false hp]) (ihy hg.2 hR E h)
    · rename_i p
      obtain ⟨b, hb, hbp⟩ := hc
      obtain ⟨h1, h2⟩ := h
      cases b
      · exact wp_cond_false hb (ihy hg.2 hR E h2)
      · exact wp_cond_true hb (ihx hg.1 hR E (h1 (hbp rfl)))
  | block id x ih =>
    intro hg ρ Q R r G st a w hR E h
    refine wp_block (ih hg (Q := Kont.blk id Q) (R := Exit.inBlock id R) (fun G' st' a' w' E' => ⟨fun h' => (hR _ _ _ _ E').1 h', fun i h' => ?_, fun h' => (hR _ _ _ _ E').2.2 h'⟩) E h)
    have h' : (bif Nat.beq i id then Q .normal st' else Q (.exit i) st') r := h'
    show if i = id then R .normal a' w' else R (.exit i) a' w'
    cases hb : Nat.beq i id with
    | true =>
      rw [hb] at h'
      rw [if_pos (Nat.eq_of_beq_eq_true hb)]
      exact (hR _ _ _ _ E').1 h'
    | false =>
      rw [hb] at h'
      have hne : i ≠ id := fun e => by subst e; rw [Nat.beq_refl] at hb; cases hb
      rw [if_neg hne]
      exact (hR _ _ _ _ E').2.1 i h'
  | loop x ih =>
    intro hg ρ Q R r G st a w hR E h
    simp only [evCode] at h
    cases hA : A (2 * headId x) with
    | none => rw [hA] at h; exact h.elim
    | some l =>
      rw [hA] at h
      simp only at h
      obtain ⟨x0, G0, ⟨k, hk⟩, E0⟩ := catch_ok E h
      refine wp_loop_rounds k ?_
      have key : ∀ (k : Nat) (x0 : (liveTy l).D) (G0 : Gh) (a : Act) (w : World), EnvR X F w0 n G0 (restore l x0 st0) a w →
          iterM (fun rec x' => evCode Γ A x (restore l x' st0) (Kont.thn (fun st' => catch_ l st' rec) Q)) k x0 r → Code.rounds P x R k a w := by
        intro k
        induction k with
        | zero => intro x0 G0 a w _ hk; exact hk.elim
        | succ k ihk =>
          intro x0 G0 a w E0 hk
          rw [rounds_succ]
          refine ih hg (Q := Kont.thn (fun st' => catch_ l st' (iterM (fun rec x' => evCode Γ A x (restore l x' st0) (Kont.thn (fun st' => catch_ l st' rec) Q)) k)) Q) (R := Exit.then (Code.rounds P x R k) R) (fun G' st' a' w' E' => ⟨fun h' => ?_, fun i h' => (hR _ _ _ _ E').2.1 i h', fun h' => (hR _ _ _ _ E').2.2 h'⟩) E0 hk
          obtain ⟨x1, G1, h1, E1⟩ := catch_ok E' h'
          exact ihk x1 G1 a' w' E1 h1
      exact key k x0 G0 a w E0 hk
  | scope x ih =>
    intro hg ρ Q R r G st a w hR E h
    exact wp_scope_straight (ih hg (R := Exit.noGoto R) (fun G' st' a' w' E' => ⟨fun h' => (hR _ _ _ _ E').1 h', fun i h' => (hR _ _ _ _ E').2.1 i h', fun h' => (hR _ _ _ _ E').2.2 h'⟩) E h)
  | exit id => intro _ ρ Q R r G st a w hR E h; exact wp_exit ((hR G st a w E).2.1 id h)
  | ret => intro _ ρ Q R r G st a w hR E h; exact wp_ret ((hR G st a w E).2.2 h)
  | _ => intros; rename_i h; exact h.elim
end Go.Proofs.YtlnbcpcnpofnoaaGreatDoor.E

/- Functions: their answers are the evaluator's. -/
namespace Go.Proofs.YtlnbcpcnpofnoaaGreatDoor.E
open Go Go.RowKit
set_option linter.unusedVariables false
set_option linter.unusedSimpArgs false

variable {P : Program} {X : Nat → Prop} {F : Root} {w0 : World} {n : Nat} {G : Gh} {st : St} {a : Act} {w : World} {o : Oper}

/-! ### What is handed back -/
theorem aggOf_LR {own : Nat → Prop} {G : Gh} {m : Nat → MB} {l : List AV} {v : Value} (h : AR w own G.β m (aggOf l) v) : LR w own G m (aggOf l, .none) v := by
  refine ⟨h, ?_⟩
  have h2 : aggOf l = .dead ∨ ∃ t y, aggOf l = .t (.agg t) y := by
    unfold aggOf
    split
    · exact .inr ⟨_, _, rfl⟩
    · exact .inl rfl
  rcases h2 with h2 | ⟨t, y, h2⟩ <;> rw [h2]
theorem dead_LR {own : Nat → Prop} {G : Gh} {m : Nat → MB} {v : Value} : LR w own G m (.dead, .none) v := ⟨trivial, rfl⟩
def resVal (P : Program) (tmps : Array Value) (w : World) : ResultVar → Value → Prop
  | .tmp t, v => v = tmps.getD t undef
  | .cell a T, v => (Instr.loadAt T (tmps.getD a undef)).run P w = .ok v w
theorem resAV_ok (E : EnvR X F w0 n G st a w) {Γ : Ctx} (ht : ∀ T, (Γ.ty T).ok P T) (rv : ResultVar) {ty : Ty} {y : ty.D} (hy : asOne (resAV Γ st rv).1 (resAV Γ st rv).2 ty = some y) :
    ∃ v, (match rv with | .tmp t => v = a.tmps.getD t undef | .cell b T => ∃ ad, a.tmps.getD b undef = .pointer (some ad) ∧ (loadVar T ad).run P w = .ok v w) ∧ LR w (Own X G.β st.m) G st.m (resAV Γ st rv) v := by
  cases rv with
  | tmp t => exact ⟨_, rfl, look_LR E (.tmp t)⟩
  | cell b T =>
    simp only [resAV] at hy ⊢
    cases h1 : (st.look (.tmp b)) with
    | mk x mb =>
    rw [h1] at hy
    cases x <;> (try simp only at hy) <;> first | (simp [asOne] at hy; done) | skip
    rename_i d off
    cases mb <;> (try simp only at hy) <;> first | (simp [asOne] at hy; done) | skip
    rename_i l
    simp only
    obtain ⟨hm, g, e, cs, hβ, hv, hh, hr, hone⟩ := box_at E (x := .tmp b) (d := d) (off := off) (l := l) (by rw [h1]) (by rw [h1])
    have hcell : ∀ (j : Nat) (c : Value), cs[off + j]? = some c → w.cell? ((Addr.add ⟨g, (G.π d).1.length, none⟩ off).add j) = some c := by
      intro j c hj
      rw [add_add]; exact own_cells hh (off + j) hj
    have hlen := hr.length
    have hT := ht T
    split at hy
    · rename_i fs size z hti
      cases hle : Nat.ble (off + size) l.length with
      | false => rw [hle] at hy; simp [asOne] at hy
      | true =>
        simp only
        have hle' : off + size ≤ l.length := Nat.le_of_ble_eq_true hle
        rw [hti] at hT
        obtain ⟨fs', i, z', t1, t2, t3, _⟩ := hT
        have hrun := run_load_agg t1 t2 (w := w) (ad := Addr.add ⟨g, (G.π d).1.length, none⟩ off) (cs := (cs.drop off).take size) (by simp; omega) (by
          intro j c hj
          rw [List.getElem?_take] at hj
          split at hj
          · exact hcell j c (by simpa using hj)
          · cases hj)
        refine ⟨_, ⟨_, hv, by simpa [Instr.loadAt, Instr.sureAddr] using hrun⟩, aggOf_LR ?_⟩
        unfold part
        exact aggOf_AR (All2.take size (All2.drop off hr)) fun c hc => hone c (List.mem_of_mem_drop (List.mem_of_mem_take hc))
    · rename_i e2 ty2 size z hti
      cases hle : Nat.ble (off + size) l.length with
      | false => rw [hle] at hy; simp [asOne] at hy
      | true =>
        simp only
        have hle' : off + size ≤ l.length := Nat.le_of_ble_eq_true hle
        rw [hti] at hT
        obtain ⟨_, t1, _, _, i, z', t2, t3, _⟩ := hT
        have hrun := run_load_arr t1 t2 (w := w) (ad := Addr.add ⟨g, (G.π d).1.length, none⟩ off) (cs := (cs.drop off).take size) (by simp; omega) (by
          intro j c hj
          rw [List.getElem?_take] at hj
          split at hj
          · exact hcell j c (by simpa using hj)
          · cases hj)
        refine ⟨_, ⟨_, hv, by simpa [Instr.loadAt, Instr.sureAddr] using hrun⟩, aggOf_LR ?_⟩
        unfold part
        exact aggOf_AR (All2.take size (All2.drop off hr)) fun c hc => hone c (List.mem_of_mem_drop (List.mem_of_mem_take hc))
    · rename_i hns _
      cases hn : Nat.beq (Γ.ty T).n 1 with
      | false => rw [hn] at hy; simp [asOne] at hy
      | true =>
        cases hl : l[off]? with
        | none => rw [hn, hl] at hy; simp [asOne] at hy
        | some v =>
          obtain ⟨c, hc, hvc⟩ := hr.get off hl
          obtain ⟨⟨d', t1, t2, t3⟩, _⟩ := TI.ok_one hT (Nat.eq_of_beq_eq_true hn) hns
          have hrun := run_load_cell t1 t2 t3 (w := w) (ad := Addr.add ⟨g, (G.π d).1.length, none⟩ off) (c := c) (by have := hcell 0 c (by simpa using hc); rwa [add_zero] at this)
          refine ⟨c, ⟨_, hv, by simpa [Instr.loadAt, Instr.sureAddr] using hrun⟩, ?_⟩
          simp only
          exact at_LR E.mems hvc
def resOne (tm : Array Value) : ResultVar → Sem Value
  | .tmp t => pure (tm.getD t undef)
  | .cell b t => do loadVar t (← asAddr (tm.getD b undef))
theorem results_eq (fn : Func) (tm : Array Value) : results fn tm = (do
    let vs ← fn.results.mapM (resOne tm)
    pure (if h : vs.size = 1 then vs[0] else .tuple vs)) := by
  unfold results
  congr 1
theorem asRes_ok (E : EnvR X F w0 n G st a w) {Γ : Ctx} (ht : ∀ T, (Γ.ty T).ok P T) {own : Nat → Prop} (hsub : ∀ g, own g → Own X G.β st.m g) (hfree : ∀ d g, blk G.β st.m d = some g → ¬ own g) :
    ∀ (rs : List ResultVar) {ty : Ty} {y : ty.D}, asRes Γ st rs ty = some y → ∃ vs : List Value, vs.length = rs.length ∧
      (rs.mapM (resOne a.tmps)).run P w = .ok vs w ∧ TupR w own ty y vs ∧ (rs.length = 1 → ∃ v, vs = [v] ∧ VR w own ty y v)
  | [], ty, y, hy => by
    unfold asRes at hy
    cases ty <;> simp only at hy <;> first | (cases hy; done) | exact ⟨[], rfl, by simp, rfl, fun h => by simp at h⟩
  | [x], ty, y, hy => by
    unfold asRes at hy
    cases hn : ty.isNil with
    | true => rw [hn] at hy; cases hy
    | false =>
      rw [hn] at hy
      simp only at hy
      obtain ⟨v, hv, hL⟩ := resAV_ok E ht x hy
      have hVR := asOne_VR E.mems hL hy hsub (fun d _ g hg => hfree d g hg)
      refine ⟨[v], rfl, ?_, ?_, fun _ => ⟨v, rfl, hVR⟩⟩
      · cases x with
        | tmp t => simp only at hv; simp [hv, resOne]
        | cell b T =>
          obtain ⟨ad, h1, h2⟩ := hv
          simp [resOne, h1, asAddr, h2]
      · have := ArgsR_one hVR (fun e => by subst e; simp [Ty.isNil] at hn) (fun a b e => by subst e; exact hVR.2)
        cases ty <;> first | exact this | (simp [Ty.isNil] at hn; done) | exact hVR.2.elim
  | x :: z :: r, ty, y, hy => by
    unfold asRes at hy
    cases ty <;> simp only at hy <;> first | (cases hy; done) | skip
    split at hy
    · rename_i u v e1 e2
      obtain rfl := Option.some.inj hy
      obtain ⟨vs, h1, h2, h3, h4⟩ := asRes_ok E ht hsub hfree (z :: r) e2
      obtain ⟨v0, hv, hL⟩ := resAV_ok E ht x e1
      have hVR := asOne_VR E.mems hL e1 hsub (fun d _ g hg => hfree d g hg)
      refine ⟨v0 :: vs, by simp [h1], ?_, ⟨v0, vs, rfl, hVR, h3⟩, fun h => by simp at h⟩
      have hx : (resOne a.tmps x).run P w = .ok v0 w := by
        cases x with
        | tmp t => simp only at hv; simp [hv, resOne]
        | cell b T =>
          obtain ⟨ad, p1, p2⟩ := hv
          simp [resOne, p1, asAddr, p2]
      rw [List.mapM_cons]
      simp only [Sem.run_bind, hx, Result.andThen, h2, Sem.run_pure]
    · cases hy
theorem results_ok (E : EnvR X F w0 n G st a w) {Γ : Ctx} (ht : ∀ T, (Γ.ty T).ok P T) {fn : Func} {tup : Bool} (htup : tup = !(Nat.beq fn.results.size 1)) {ty : Ty} {y : ty.D} (hy : asRes Γ st fn.results.toList ty = some y) :
    ∃ v, (results fn a.tmps).run P w = .ok v w ∧ OutR w X tup ty y v := by
  obtain ⟨vs, h1, h2, h3, h4⟩ := asRes_ok E ht (own := X) (fun g h => .inl h) (fun d g h => E.notX d g h) _ hy
  have hr : (results fn a.tmps).run P w = .ok (if h : vs.toArray.size = 1 then vs.toArray[0] else .tuple vs.toArray) w := by
    rw [results_eq, Array.mapM_eq_mapM_toList]
    simp [h2]
  refine ⟨_, hr, ?_⟩
  subst htup
  have hlen : vs.length = fn.results.size := by simpa using h1
  by_cases hs : fn.results.size = 1
  · have hb : Nat.beq fn.results.size 1 = true := by rw [hs]; rfl
    obtain ⟨v, rfl, hv⟩ := h4 (by simpa using hs)
    rw [hb]
    exact hv
  · have hb : Nat.beq fn.results.size 1 = false := by
      cases h : Nat.beq fn.results.size 1
      · rfl
      · exact absurd (Nat.eq_of_beq_eq_true h) hs
    rw [hb]
    refine ⟨vs, ?_, h3⟩
    rw [dif_neg (by simpa [hlen] using hs)]

/-! ### What is handed in -/
def tyLen : Ty → Nat
  | .nil => 0
  | .pair _ b => tyLen b + 1
  | _ => 1
theorem ArgsR_len {own : Nat → Prop} : ∀ {ty : Ty} {x : ty.D} {vs : List Value}, ArgsR w own ty x vs → vs.length = tyLen ty
  | .nil, _, _, h => by simp only [ArgsR] at h; subst h; rfl
  | .pair a b, _, _, h => by simp only [ArgsR] at h; obtain ⟨v, r, rfl, _, h⟩ := h; simp [tyLen, ArgsR_len h]
  | .int _, _, _, h => by simp only [ArgsR] at h; obtain ⟨v, rfl, _⟩ := h; rfl
  | .bool, _, _, h => by simp only [ArgsR] at h; obtain ⟨v, rfl, _⟩ := h; rfl
  | .str, _, _, h => by simp only [ArgsR] at h; obtain ⟨v, rfl, _⟩ := h; rfl
  | .any, _, _, h => by simp only [ArgsR] at h; obtain ⟨v, rfl, _⟩ := h; rfl
  | .lst _, _, _, h => by simp only [ArgsR] at h; obtain ⟨v, rfl, _⟩ := h; rfl
  | .agg _, _, _, h => by simp only [ArgsR] at h; obtain ⟨v, rfl, _⟩ := h; rfl
theorem argsSt_m : ∀ (ty : Ty) (k : Nat) (x : ty.D) (st : St), (argsSt k ty x st).m = st.m
  | .pair a b, k, x, st => by simp only [argsSt]; rw [St.put_m]; exact argsSt_m b (k + 1) x.2 st
  | .nil, _, _, _ => rfl
  | .int _, _, _, _ => rfl
  | .bool, _, _, _ => rfl
  | .str, _, _, _ => rfl
  | .any, _, _, _ => rfl
  | .lst _, _, _, _ => rfl
  | .agg _, _, _, _ => rfl
theorem argsSt_ok {own : Nat → Prop} {β : Nat → Value} {tm : Nat → Value} : ∀ (ty : Ty) (k : Nat) {x : ty.D} {vs : List Value} {st : St}, ArgsR w own ty x vs → (∀ (i : Nat) (v : Value), vs[i]? = some v → tm (k + i) = v) → (∀ t, AR w own β st.m (st.s t) (tm t)) →
    ∀ t, AR w own β st.m ((argsSt k ty x st).s t) (tm t) := by
  have one : ∀ (ty : Ty) (k : Nat) {x : ty.D} {vs : List Value} {st : St}, (∃ v, vs = [v] ∧ VR w own ty x v) → (∀ (i : Nat) (v : Value), vs[i]? = some v → tm (k + i) = v) → (∀ t, AR w own β st.m (st.s t) (tm t)) → ∀ t, AR w own β st.m ((st.put (some k) (.t ty x)).s t) (tm t) := by
    rintro ty k x vs st ⟨v, rfl, hv⟩ ht hs t
    rw [St.put_s]
    by_cases e : t = k
    · subst e
      simp only [if_true]
      rw [show tm t = v from ht 0 v rfl]; exact hv
    · simp only [e, if_false]; exact hs t
  intro ty
  induction ty with
  | pair a b iha ihb =>
    intro k x vs st h ht hs
    simp only [ArgsR] at h
    obtain ⟨v, r, rfl, hv, hr⟩ := h
    have := ihb (k + 1) hr (fun i v hi => by have := ht (i + 1) v (by simpa using hi); rwa [show k + 1 + i = k + (i + 1) by omega]) hs
    intro t
    simp only [argsSt]
    rw [St.put_s]
    by_cases e : t = k
    · subst e
      simp only [if_true]
      rw [show tm t = v from ht 0 v rfl]; exact hv
    · simp only [e, if_false]; exact this t
  | nil => intro k x vs st h ht hs; exact hs
  | int k => intro k x vs st h ht hs; exact one _ k h ht hs
  | bool => intro k x vs st h ht hs; exact one _ k h ht hs
  | str => intro k x vs st h ht hs; exact one _ k h ht hs
  | any => intro k x vs st h ht hs; exact one _ k h ht hs
  | lst t => intro k x vs st h ht hs; exact one _ k h ht hs
  | agg t => intro k x vs st h ht hs; exact one _ k h ht hs
theorem start_tmp (vs : List Value) (k : Nat) (i : Nat) (v : Value) (h : vs[i]? = some v) : (vs.toArray ++ Array.replicate k undef).getD i undef = v := by
  have hi : i < vs.length := (List.getElem?_eq_some_iff.1 h).1
  rw [Array.getD_eq_getD_getElem?, Array.getElem?_append_left (by simpa using hi)]
  simp [h]
/-- Where a call begins, nothing handed over to be written on. -/
theorem start (w : World) (X : Nat → Prop) {args : Ty} {x : args.D} {vs : List Value} {k : Nat} (hX : ∀ g, X g → g < w.heap.size) (h : ArgsR w X args x vs) (hk : tyLen args ≤ k) :
    EnvR X ⟨fun _ => False, undef, ([], [])⟩ w k ⟨fun _ => undef, fun _ => ([], [])⟩ (argsSt 0 args x st0) { tmps := vs.toArray ++ Array.replicate (k - vs.toArray.size) undef, defers := [] } w := by
  have hm : (argsSt 0 args x st0).m = fun _ => .none := argsSt_m _ _ _ _
  have hlen := ArgsR_len h
  have A : Agree w w X (Own X (fun _ => undef) fun _ => .none) := ⟨fun _ _ _ => rfl, fun g _ ho => by
    rcases ho with ho | ⟨d, hd⟩
    · exact ho
    · simp [blk] at hd⟩
  refine ⟨fun t => ?_, fun d => ?_, fun d d' g hd => ?_, fun d g hd => ?_, fun d g hd => ?_, hX, rfl, ?_, rfl, rfl, rfl, Nat.le_refl _, fun _ _ _ => rfl, fun d hd => ?_⟩
  · rw [hm]
    exact AR_mono (own := X) (β := fun _ => undef) (m := fun _ => .none) A (fun _ _ => rfl) (fun _ => Later.refl _) (argsSt_ok (st := st0) (tm := fun t => (vs.toArray ++ Array.replicate (k - vs.toArray.size) undef).getD t undef) args 0 h (fun i v hi => by rw [Nat.zero_add]; exact start_tmp _ _ i v hi) (fun _ => trivial) t)
  · rw [hm]; trivial
  · rw [hm] at hd; simp [blk] at hd
  · rw [hm] at hd; simp [blk] at hd
  · rw [hm] at hd; simp [blk] at hd
  · simp; omega
  · rw [hm] at hd; cases hd
theorem grows_of (E : EnvR X F w0 n G st a w) (hF : ∀ k, ¬ F k) : Grows w0 w := ⟨E.grown, E.os, E.tape, E.output, fun g hg => E.keep g hg (hF g)⟩
structure FnOK (P : Program) (f : FuncId) (fn : Func) (k : Nat) : Prop where
  at_ : P.funcs[f]? = some fn
  has : fn.body.isNone = false
  name : (fn.name == "runtime.NumGoroutine") = false
  good : goodC fn.ntmps (bodyOf fn) = true
  args : k ≤ fn.ntmps
theorem FnOK.entered {f : FuncId} {fn : Func} {k : Nat} (h : FnOK P f fn k) : Entered P f := ⟨fn, h.at_, h.has, h.name⟩
theorem FnOK.body {f : FuncId} {fn : Func} {k : Nat} (h : FnOK P f fn k) : fn.body = some (bodyOf fn) := by
  have := h.has
  unfold bodyOf
  cases hb : fn.body with
  | none => rw [hb] at this; cases this
  | some c => rfl
theorem ctr_plain {Γ : Ctx} (hΓ : CtxOK P Γ) (hm : P.follows .mixedOrders = true) {A : Live} {f : FuncId} {fn : Func} {args res : Ty} {tup : Bool} (hf : FnOK P f fn (tyLen args)) (htup : tup = !(Nat.beq fn.results.size 1)) :
    Ctr P Γ.glob f (.plain args res tup fun x => evFn Γ A fn args res x) := by
  refine ⟨hf.entered, fun X x r w vs hL hg hX ha hr => ?_⟩
  refine calls_of_wp hf.at_ hf.body ?_
  have H : Home P Γ X ⟨fun _ => False, undef, ([], [])⟩ w := ⟨hΓ, hL, fun g v h => ⟨hg g v h, fun h => h⟩⟩
  refine code_ok H hm (bodyOf fn) hf.good (Q := finQ Γ fn.results.toList res) (r := r) ?_ (start w X hX ha hf.args) hr
  have fin : ∀ G st a w', EnvR X ⟨fun _ => False, undef, ([], [])⟩ w fn.ntmps G st a w' → finM Γ fn.results.toList res st r → a.defers = [] ∧ ∃ v, (results fn a.tmps).run P w' = .ok v w' ∧ ∃ u, Ending.returned v = .returned u ∧ Grows w w' ∧ OutR w' X tup res r u := by
    intro G st a w' E h
    unfold finM at h
    cases hy : asRes Γ st fn.results.toList res with
    | none => rw [hy] at h; exact h.elim
    | some y =>
      rw [hy] at h
      have h : r = y := h
      subst h
      obtain ⟨v, hv, hO⟩ := results_ok E hΓ.ty htup hy
      exact ⟨E.defers, v, hv, v, rfl, grows_of E (fun k h => h), hO⟩
  exact fun G st a w' E => ⟨fun h => fin G st a w' E h, fun i h => h.elim, fun h => fin G st a w' E h⟩
def ownB (ty : Ty) (b : MB) : M (List ty.D) := match b with
  | .own true a l => if h : a = ty then M.ret (castD (congrArg Ty.lst h) l) else M.none
  | _ => M.none
def ownAt (st : St) (ty : Ty) (t : Nat) : M (List ty.D) := match st.s t with
  | .row d => ownB ty (st.m d)
  | _ => M.none
theorem ownB_spec {ty : Ty} {b : MB} {r : List ty.D} (h : ownB ty b r) : b = .own true ty r := by
  cases b <;> first | exact h.elim | skip
  rename_i app a l
  cases app <;> first | exact h.elim | skip
  have h : (if h : a = ty then M.ret (castD (congrArg Ty.lst h) l) else (M.none : M (List ty.D))) r := h
  by_cases hty : a = ty
  · subst hty
    rw [dif_pos rfl] at h
    have h : r = l := h
    subst h
    rfl
  · rw [dif_neg hty] at h; exact h.elim
theorem ownAt_spec {ty : Ty} {t : Nat} {r : List ty.D} (h : ownAt st ty t r) : ∃ d, st.s t = .row d ∧ st.m d = .own true ty r := by
  unfold ownAt at h
  generalize st.s t = av at h
  cases av <;> first | exact h.elim | skip
  rename_i d
  exact ⟨d, rfl, ownB_spec h⟩
theorem ctr_own {Γ : Ctx} (hΓ : CtxOK P Γ) (hm : P.follows .mixedOrders = true) {A : Live} {f : FuncId} {fn : Func} {args ty : Ty} (hf : FnOK P f fn (tyLen args)) :
    Ctr P Γ.glob f (.own args ty fun x => evFnOwn Γ A fn args ty x) := by
  refine ⟨hf.entered, fun X x r w vs hL hg hX ha hr => ?_⟩
  refine calls_of_wp hf.at_ hf.body ?_
  have H : Home P Γ X ⟨fun _ => False, undef, ([], [])⟩ w := ⟨hΓ, hL, fun g v h => ⟨hg g v h, fun h => h⟩⟩
  refine code_ok H hm (bodyOf fn) hf.good (Q := finOwn fn.results.toList ty) (r := r) ?_ (start w X hX ha hf.args) hr
  have fin : ∀ e, (∀ i, e ≠ .exit i) → ∀ G st a w', EnvR X ⟨fun _ => False, undef, ([], [])⟩ w fn.ntmps G st a w' → finOwn fn.results.toList ty e st r → a.defers = [] ∧ ∃ v, (results fn a.tmps).run P w' = .ok v w' ∧ ∃ u, Ending.returned v = .returned u ∧ Grows w w' ∧ NewRow w w' X ty r u := by
    intro e he G st a w' E h
    have key : ∃ t d, fn.results.toList = [.tmp t] ∧ st.s t = .row d ∧ st.m d = .own true ty r := by
      generalize fn.results.toList = rs at h
      cases rs with
      | nil => cases e <;> first | exact absurd rfl (he _) | exact h.elim
      | cons x xs =>
        cases xs with
        | cons z zs => cases e <;> cases x <;> first | exact absurd rfl (he _) | exact h.elim
        | nil =>
          cases x with
          | cell b T => cases e <;> first | exact absurd rfl (he _) | exact h.elim
          | tmp t =>
            have h : ownAt st ty t r := by cases e <;> first | exact absurd rfl (he _) | exact h
            obtain ⟨d, h1, h2⟩ := ownAt_spec h
            exact ⟨t, d, rfl, h1, h2⟩
    obtain ⟨t, d, h1, h2, h3⟩ := key
    have hres : fn.results = #[.tmp t] := by apply Array.ext'; simpa using h1
    refine ⟨E.defers, _, results_tmp hres _ _ _, _, rfl, grows_of E (fun k h => h), ?_⟩
    have hs := E.slots t
    rw [h2] at hs
    simp only [AR, h3] at hs
    rw [hs]
    have hM := E.mems d
    unfold MR at hM; rw [h3] at hM; simp only at hM
    rcases hM with ⟨q1, q2, _⟩ | ⟨g, e', cap, css, post, q1, q2, q3, q4, q5⟩
    · exact .inl ⟨q1, q2⟩
    · rw [if_pos trivial] at q5
      have hb : blk G.β st.m d = some g := by rw [blk_row h3, q1]; rfl
      rw [q5.1] at q1 q2
      refine .inr ⟨g, e', cap, css, post, q1, ?_, by simpa using q2, q3.mono fun y cs hy => R_mono ⟨fun _ _ _ => rfl, fun b _ hb' => ?_⟩ hy, q4, q5.2.1, q5.2.2⟩
      · rcases E.fresh d g hb with h | h
        · exact h
        · exact h.elim
      · rcases hb' with h | rfl
        · exact .inl h
        · exact .inr ⟨d, hb⟩
  exact fun G st a w' E => ⟨fun h => fin .normal (fun _ => by simp) G st a w' E h, fun i h => h.elim, fun h => fin .ret (fun _ => by simp) G st a w' E h⟩
/-- Where a call begins that is handed a row to write on. -/
theorem startRow (w : World) (X : Nat → Prop) {ty args : Ty} {l : List ty.D} {x : args.D} {vs : List Value} {k g : Nat} {e : TypeId} {cap : Nat} {pre post : List Value} {css : List (List Value)} (hX : ∀ b, X b → b < w.heap.size) (hg : ¬ X g)
    (hc : List.length l ≤ cap) (hh : w.heap[g]? = some (.cells (pre ++ css.flatten ++ post).toArray e (0, 0))) (hr : All2 (R w (fun b => X b ∨ b = g) ty) l css) (ha : ArgsR w (fun b => X b ∨ b = g) args x vs) (hk : tyLen args + 1 ≤ k) :
    EnvR X ⟨fun b => b = g, .slice (some ⟨g, pre.length, none⟩) (List.length l) cap, (pre, post)⟩ w k ⟨fun _ => .slice (some ⟨g, pre.length, none⟩) (List.length l) cap, fun _ => (pre, post)⟩ (rowSt ty args l x)
      { tmps := (Value.slice (some ⟨g, pre.length, none⟩) (List.length l) cap :: vs).toArray ++ Array.replicate (k - (Value.slice (some ⟨g, pre.length, none⟩) (List.length l) cap :: vs).toArray.size) undef, defers := [] } w := by
  generalize hv : Value.slice (some ⟨g, pre.length, none⟩) (List.length l) cap = v0
  have hm : (rowSt ty args l x).m = upd (fun _ => .none) 0 (.own false ty l) := by
    unfold rowSt; rw [set_eq, St.put_m, argsSt_m]; rfl
  have hs : (rowSt ty args l x).s = ((argsSt 1 args x st0).put (some 0) (.row 0)).s := by unfold rowSt; rw [set_eq]
  have hlen := ArgsR_len ha
  have hblk : ∀ d b, blk (fun _ => v0) (upd (fun _ => MB.none) 0 (.own false ty l)) d = some b → d = 0 ∧ b = g := by
    intro d b h
    by_cases hd : d = 0
    · subst hd
      rw [blk_row (upd_same _ _ _), ← hv] at h
      simp [headOf] at h
      exact ⟨rfl, h.symm⟩
    · unfold blk at h; rw [upd_other _ _ hd] at h; cases h
  have A : Agree w w (fun b => X b ∨ b = g) (Own X (fun _ => v0) (upd (fun _ => MB.none) 0 (.own false ty l))) := ⟨fun _ _ _ => rfl, fun b _ ho => by
    rcases ho with ho | ⟨d, hd⟩
    · exact .inl ho
    · exact .inr (hblk d b hd).2⟩
  have hgs : g < w.heap.size := (Array.getElem?_eq_some_iff.1 hh).1
  refine ⟨fun t => ?_, fun d => ?_, fun d d' b hd hd' => ?_, fun d b hd => ?_, fun d b hd => ?_, hX, rfl, ?_, rfl, rfl, rfl, Nat.le_refl _, fun _ _ _ => rfl, fun d hd => ⟨rfl, rfl⟩⟩
  · rw [hm, hs]
    rw [St.put_s]
    by_cases ht : t = 0
    · subst ht
      simp only [if_true, AR]
      rw [upd_same]
      simp only
      exact start_tmp (v0 :: vs) _ 0 v0 rfl
    · simp only [ht, if_false]
      refine AR_mono (own := fun b => X b ∨ b = g) (β := fun _ => v0) (m := fun _ => .none) A (fun _ _ => rfl) (fun d => ?_) (argsSt_ok (st := st0) (tm := fun t => ((v0 :: vs).toArray ++ Array.replicate (k - (v0 :: vs).toArray.size) undef).getD t undef) args 1 ha (fun i v hi => start_tmp (v0 :: vs) _ (1 + i) v (by rw [Nat.add_comm]; simpa using hi)) (fun _ => trivial) t)
      trivial
  · rw [hm]
    by_cases hd : d = 0
    · subst hd
      unfold MR
      rw [upd_same]
      simp only
      exact .inr ⟨g, e, cap, css, post, hv.symm, hh, hr.mono fun _ _ h => R_mono A h, hc, by simp⟩
    · unfold MR; rw [upd_other _ _ hd]; trivial
  · rw [hm] at hd hd'; rw [(hblk d b hd).1, (hblk d' b hd').1]
  · rw [hm] at hd; rw [(hblk d b hd).2]; exact hg
  · rw [hm] at hd; exact .inr (hblk d b hd).2
  · simp; omega
def rowEnd (ty : Ty) (b : MB) : Option (List ty.D) := match b with
  | .own false a l => asOne (.row 0) (.own false a l) (.lst ty)
  | _ => none
theorem rowEnd_spec {ty : Ty} {b : MB} {r : List ty.D} (h : rowEnd ty b = some r) : b = .own false ty r := by
  unfold rowEnd at h
  cases b <;> (try simp only at h) <;> first | (cases h; done) | skip
  rename_i app a l
  cases app <;> (try simp only at h) <;> first | (cases h; done) | skip
  simp only [asOne] at h
  split at h
  · rename_i e; subst e
    obtain rfl := Option.some.inj h
    rfl
  · cases h
theorem finRow_spec {Γ : Ctx} {rs : List ResultVar} {ty res : Ty} {e : Ex} {r : res.D × List ty.D} (h : finRow Γ rs ty res e st r) : (∀ i, e ≠ .exit i) ∧ asRes Γ st rs res = some r.1 ∧ st.m 0 = .own false ty r.2 := by
  have key : ∀ (a : Option res.D) (b : Option (List ty.D)), (match a, b with | some x, some l => M.ret (x, l) | _, _ => (M.none : M (res.D × List ty.D))) r → a = some r.1 ∧ b = some r.2 := by
    intro a b h
    cases a <;> cases b <;> first | exact h.elim | skip
    have h : r = _ := h
    subst h; exact ⟨rfl, rfl⟩
  cases e with
  | exit i => exact nomatch (key none (rowEnd ty (st.m 0)) h).1
  | normal =>
    obtain ⟨h1, h2⟩ := key (asRes Γ st rs res) (rowEnd ty (st.m 0)) h
    exact ⟨fun _ => by simp, h1, rowEnd_spec h2⟩
  | ret =>
    obtain ⟨h1, h2⟩ := key (asRes Γ st rs res) (rowEnd ty (st.m 0)) h
    exact ⟨fun _ => by simp, h1, rowEnd_spec h2⟩
theorem ctr_ioRow {Γ : Ctx} (hΓ : CtxOK P Γ) (hm : P.follows .mixedOrders = true) {A : Live} {f : FuncId} {fn : Func} {ty args res : Ty} (hf : FnOK P f fn (tyLen args + 1)) (hflat : ty.hasLst = false) (hres : (res.isNil || Nat.beq fn.results.size 1) = true) :
    Ctr P Γ.glob f (.ioRow ty args res fun l x => evFnRow Γ A fn ty args res l x) := by
  refine ⟨hf.entered, hflat, fun X l x r w vs g e cap pre post css hL hgl hX hg _ hc hh hr ha hF => ?_⟩
  refine calls_of_wp hf.at_ hf.body ?_
  have H : Home P Γ X ⟨fun b => b = g, .slice (some ⟨g, pre.length, none⟩) (List.length l) cap, (pre, post)⟩ w := ⟨hΓ, hL, fun b v h => ⟨fun k => hgl b v h (.inl k), fun k => hgl b v h (.inr k)⟩⟩
  refine code_ok H hm (bodyOf fn) hf.good (Q := finRow Γ fn.results.toList ty res) (r := r) ?_ (startRow w X hX hg hc hh hr ha hf.args) hF
  have fin : ∀ ex G st a w', EnvR X ⟨fun b => b = g, .slice (some ⟨g, pre.length, none⟩) (List.length l) cap, (pre, post)⟩ w fn.ntmps G st a w' → finRow Γ fn.results.toList ty res ex st r → a.defers = [] ∧ ∃ v, (results fn a.tmps).run P w' = .ok v w' ∧ ∃ u, Ending.returned v = .returned u ∧ But g w w' ∧ List.length r.2 = List.length l ∧
      (∃ (e' : TypeId) (css' : List (List Value)), w'.heap[g]? = some (.cells (pre ++ css'.flatten ++ post).toArray e' (0, 0)) ∧ All2 (R w' (fun b => X b ∨ b = g) ty) r.2 css') ∧ OutIO w' X res r.1 u := by
    intro ex G st a w' E h
    obtain ⟨_, h1, h2⟩ := finRow_spec h
    obtain ⟨v, hv, hO⟩ := results_ok E hΓ.ty rfl h1
    obtain ⟨q1, q2⟩ := E.root 0 (by rw [h2]; rfl)
    have hM := E.mems 0
    unfold MR at hM; rw [h2, q1, q2] at hM; simp only at hM
    rcases hM with ⟨h, _, _⟩ | ⟨g', e', cap', css', post', p1, p2, p3, p4, p5⟩
    · cases h
    · simp only [Value.slice.injEq, Option.some.injEq, Addr.mk.injEq, and_true] at p1
      obtain ⟨rfl, hl, rfl⟩ := p1
      rw [if_neg (by simp)] at p5
      rw [p5] at p2
      refine ⟨E.defers, v, hv, v, rfl, ⟨E.grown, E.os, E.tape, E.output, fun k hk hne => E.keep k hk hne⟩, hl.symm, ⟨e', css', p2, p3.mono fun _ _ h => R_flat hflat h⟩, ?_⟩
      simp only [Bool.or_eq_true] at hres
      rcases hres with hn | hn
      · exact .inl hn
      · rw [hn] at hO; exact .inr hO
  exact fun G st a w' E => ⟨fun h => fin .normal G st a w' E h, fun i h => absurd rfl ((finRow_spec h).1 i), fun h => fin .ret G st a w' E h⟩
end Go.Proofs.YtlnbcpcnpofnoaaGreatDoor.E

/- Types, by a program: what 'TI.ok' asks, looked at by the kernel. -/
namespace Go.Proofs.YtlnbcpcnpofnoaaGreatDoor.E
open Go Go.RowKit
set_option linter.unusedVariables false
set_option linter.unusedSimpArgs false

variable {P : Program}

def isNilV : Value → Bool
  | .slice none 0 0 => true
  | _ => false
theorem isNilV_ok {v : Value} (h : isNilV v = true) : v = .slice none 0 0 := by
  unfold isNilV at h
  split at h
  · rfl
  · cases h
theorem empty_of_size {s : ByteArray} (h : s.size = 0) : s = ByteArray.empty := by
  cases s with
  | mk d =>
    have : d.size = 0 := h
    have := Array.eq_empty_of_size_eq_zero this
    subst this; rfl
/-- Is it a type's zero value, of one cell? -/
def zV (ty : Ty) (v : Value) : Bool := match ty with
  | .int k => match v with
    | .int k' n => decide (k' = k) && decide (n = 0)
    | _ => false
  | .bool => match v with
    | .bool b => !b
    | _ => false
  | .str => match v with
    | .string s => Nat.beq s.size 0
    | _ => false
  | .nil => isNilV v
  | .lst _ => isNilV v
  | _ => false
theorem zV_ok {ty : Ty} {v : Value} (h : zV ty v = true) (w : World) (own : Nat → Prop) : R w own ty ty.dflt [v] := by
  cases ty <;> simp only [zV] at h <;> first | (cases h; done) | skip
  · cases v <;> simp at h
    obtain ⟨rfl, rfl⟩ := h
    simp [R, Ty.dflt]
  · cases v <;> simp at h
    subst h
    simp [R, Ty.dflt]
  · cases v <;> simp only at h <;> first | (cases h; done) | skip
    have := empty_of_size (Nat.eq_of_beq_eq_true h)
    subst this
    simp [R, Ty.dflt]
  · have := isNilV_ok h
    subst this
    simp [R]
  · have := isNilV_ok h
    subst this
    simp only [R]
    exact ⟨none, 0, rfl, Nat.le_refl _, .inl rfl⟩
/-- Do cells begin with a type's zero value? What is left of them. -/
def zR : Ty → List Value → Option (List Value)
  | .pair a b, cs => match zR a cs with
    | some r => zR b r
    | none => none
  | .agg a, cs => zR a cs
  | t, cs => match cs with
    | [] => none
    | c :: r => match zV t c with
      | true => some r
      | false => none
theorem zR_ok : ∀ (ty : Ty) {cs r : List Value}, zR ty cs = some r → ∃ c1, cs = c1 ++ r ∧ ∀ w own, R w own ty ty.dflt c1 := by
  have one : ∀ (t : Ty) {cs r : List Value}, (match cs with | [] => none | c :: r => match zV t c with | true => some r | false => none) = some r → ∃ c1, cs = c1 ++ r ∧ ∀ w own, R w own t t.dflt c1 := by
    intro t cs r h
    cases cs with
    | nil => cases h
    | cons c cs =>
      simp only at h
      cases hz : zV t c with
      | false => rw [hz] at h; cases h
      | true =>
        rw [hz] at h
        obtain rfl := Option.some.inj h
        exact ⟨[c], rfl, fun w own => zV_ok hz w own⟩
  intro ty
  induction ty with
  | pair a b iha ihb =>
    intro cs r h
    simp only [zR] at h
    split at h
    · rename_i r1 h1
      obtain ⟨c1, rfl, p1⟩ := iha h1
      obtain ⟨c2, rfl, p2⟩ := ihb h
      exact ⟨c1 ++ c2, by simp, fun w own => ⟨c1, c2, rfl, p1 w own, p2 w own⟩⟩
    · cases h
  | agg a ih => intro cs r h; simp only [zR] at h; exact ih h
  | int k => intro cs r h; exact one _ h
  | bool => intro cs r h; exact one _ h
  | str => intro cs r h; exact one _ h
  | nil => intro cs r h; exact one _ h
  | any => intro cs r h; exact one _ h
  | lst t => intro cs r h; exact one _ h
def avB (x : AV) (v : Value) : Bool := match x with
  | .t (.int k) n => match v with
    | .int k' n' => decide (k' = k) && decide (n' = n)
    | _ => false
  | .t .bool b => match v with
    | .bool b' => b == b'
    | _ => false
  | .t .str s => match v with
    | .string s' => Nat.beq (ByteArray.size s) 0 && Nat.beq s'.size 0
    | _ => false
  | .t .nil _ => isNilV v
  | _ => false
theorem avB_ok {x : AV} {v : Value} (h : avB x v = true) (w : World) (own : Nat → Prop) (β : Nat → Value) (m : Nat → MB) : AR w own β m x v ∧ v.oneCell' = true := by
  cases x <;> simp only [avB] at h <;> first | (cases h; done) | skip
  rename_i t y
  cases t <;> simp only at h <;> first | (cases h; done) | skip
  · cases v <;> simp at h
    obtain ⟨rfl, rfl⟩ := h
    exact ⟨int_VR _ _ _ _, rfl⟩
  · cases v <;> simp at h
    subst h
    exact ⟨bool_VR _ _ _, rfl⟩
  · cases v <;> simp only at h <;> first | (cases h; done) | skip
    simp only [Bool.and_eq_true] at h
    have h1 := empty_of_size (Nat.eq_of_beq_eq_true h.1)
    have h2 := empty_of_size (Nat.eq_of_beq_eq_true h.2)
    subst h2
    exact ⟨by show VR _ _ .str y _; rw [h1]; exact str_VR _ _ _, rfl⟩
  · have := isNilV_ok h
    subst this
    exact ⟨VR_cell (ty := .nil) (by simp [R]) (by simp) (by simp), rfl⟩
def avsB : List AV → List Value → Bool
  | [], [] => true
  | x :: l, v :: r => avB x v && avsB l r
  | _, _ => false
theorem avsB_ok : ∀ {l : List AV} {vs : List Value}, avsB l vs = true → (∀ w own β m, All2 (AR w own β m) l vs) ∧ ∀ c ∈ vs, c.oneCell' = true
  | [], [], _ => ⟨fun _ _ _ _ => trivial, fun _ h => by cases h⟩
  | x :: l, v :: r, h => by
    simp only [avsB, Bool.and_eq_true] at h
    obtain ⟨h1, h2⟩ := avsB_ok h.2
    refine ⟨fun w own β m => ⟨(avB_ok h.1 w own β m).1, h1 w own β m⟩, fun c hc => ?_⟩
    rcases List.mem_cons.1 hc with rfl | hc
    · exact (avB_ok h.1 default (fun _ => False) (fun _ => undef) (fun _ => .none)).2
    · exact h2 c hc
def fldsB (P : Program) (size : Nat) : List Field → List (Nat × Nat) → Bool
  | [], [] => true
  | f :: fs, p :: ps => (match P.info? f.type with
    | some i => Nat.beq f.offset p.1 && Nat.beq i.size p.2 && Nat.blt 0 p.2 && Nat.ble (p.1 + p.2) size
    | none => false) && fldsB P size fs ps
  | _, _ => false
theorem fldsB_ok {size : Nat} : ∀ {fs : List Field} {ps : List (Nat × Nat)}, fldsB P size fs ps = true → fs.mapM (fun f => (P.info? f.type).map fun i => (f.offset, i.size)) = some ps ∧
    ∀ (k : Nat) (p : Nat × Nat), ps[k]? = some p → ∃ f fi, fs[k]? = some f ∧ f.offset = p.1 ∧ P.info? f.type = some fi ∧ fi.size = p.2 ∧ p.2 ≠ 0 ∧ p.1 + p.2 ≤ size
  | [], [], _ => ⟨rfl, fun k p h => by simp at h⟩
  | f :: fs, p :: ps, h => by
    simp only [fldsB, Bool.and_eq_true] at h
    obtain ⟨h1, h2⟩ := fldsB_ok h.2
    have h0 := h.1
    cases hi : P.info? f.type with
    | none => rw [hi] at h0; cases h0
    | some i =>
      rw [hi] at h0
      simp only [Bool.and_eq_true, Nat.blt_eq] at h0
      obtain ⟨⟨⟨a1, a2⟩, a3⟩, a4⟩ := h0
      have a1 := Nat.eq_of_beq_eq_true a1
      have a2 := Nat.eq_of_beq_eq_true a2
      have a4 := Nat.le_of_ble_eq_true a4
      refine ⟨?_, fun k q hq => ?_⟩
      · rw [List.mapM_cons, hi, h1]
        simp [a1, a2]
      · cases k with
        | zero =>
          simp at hq; subst hq
          exact ⟨f, i, rfl, a1, hi, a2, by omega, a4⟩
        | succ k => simpa using h2 k q (by simpa using hq)
def oneB : TypeDesc → Bool
  | .struct _ => false
  | .array _ _ => false
  | _ => true
theorem oneB_ok {d : TypeDesc} (h : oneB d = true) : (∀ fs, d ≠ .struct fs) ∧ (∀ k e, d ≠ .array k e) := by
  constructor
  · intro fs e; subst e; cases h
  · intro k e' e; subst e; cases h
def okB (P : Program) (t : TypeId) : TI → Bool
  | .unk => true
  | .plain => match P.underlying t, P.info? t with
    | some (.struct _), _ => false
    | some (.array _ _), _ => false
    | some _, some i => Nat.beq i.size 1
    | _, _ => false
  | .bool => match P.underlying t, P.info? t with
    | some .bool, some i => match i.zero with
      | some z => Nat.beq i.size 1 && (match z with | .bool b => !b | _ => false)
      | none => false
    | _, _ => false
  | .str => match P.underlying t, P.info? t with
    | some .string, some i => match i.zero with
      | some z => Nat.beq i.size 1 && (match z with | .string s => Nat.beq s.size 0 | _ => false)
      | none => false
    | _, _ => false
  | .int k => match P.underlying t, P.info? t with
    | some (.int k'), some i => match i.zero with
      | some z => Nat.beq i.size 1 && decide (k' = k) && (match z with | .int k'' n => decide (k'' = k) && decide (n = 0) | _ => false)
      | none => false
    | _, _ => false
  | .slice e ty _ _ => match P.underlying t, P.info? t, P.info? e with
    | some (.slice e'), some i, some j => match i.zero, j.zero with
      | some z, some y => Nat.beq e' e && Nat.beq i.size 1 && isNilV z && Nat.beq j.size ty.n && Nat.ble j.bytes 64 && (match zR ty y.cells.toList with | some [] => true | _ => false)
      | _, _ => false
    | _, _, _ => false
  | .arr e ty _ len => match P.underlying t, P.info? e with
    | some (.array len' e'), some i => Nat.beq len' len && Nat.beq e' e && Nat.beq i.size ty.n
    | _, _ => false
  | .vec e ty len zero => match P.underlying t, P.info? t, P.info? e, P.underlying e with
    | some (.array len' e'), some i, some ie, some de => match i.zero with
      | some (.agg z) => Nat.beq len' len && Nat.beq e' e && Nat.ble 2 len && Nat.beq ie.size 1 && oneB de && Nat.beq i.size len && avsB zero z.toList && Nat.beq z.size len
      | _ => false
    | _, _, _, _ => false
  | .struct fields size zero => match P.underlying t, P.info? t with
    | some (.struct fs), some i => match i.zero with
      | some (.agg z) => Nat.beq i.size size && avsB zero z.toList && Nat.beq z.size size && fldsB P size fs.toList fields
      | _ => false
    | _, _ => false
theorem okB_ok {t : TypeId} {ti : TI} (h : okB P t ti = true) : ti.ok P t := by
  cases ti with
  | unk => trivial
  | plain =>
    simp only [okB] at h
    split at h
    · cases h
    · cases h
    · rename_i d i n1 n2 h1 h2
      exact ⟨d, i, h1, fun fs e => n1 fs e, fun k e he => n2 k e he, h2, Nat.eq_of_beq_eq_true h⟩
    · cases h
  | bool =>
    simp only [okB] at h
    split at h
    · rename_i i h1 h2
      split at h
      · rename_i z hz
        simp only [Bool.and_eq_true] at h
        obtain ⟨h3, h4⟩ := h
        cases z <;> simp at h4
        subst h4
        exact ⟨h1, i, h2, Nat.eq_of_beq_eq_true h3, hz⟩
      · cases h
    · cases h
  | str =>
    simp only [okB] at h
    split at h
    · rename_i i h1 h2
      split at h
      · rename_i z hz
        simp only [Bool.and_eq_true] at h
        obtain ⟨h3, h4⟩ := h
        cases z <;> simp only at h4 <;> first | (cases h4; done) | skip
        have := empty_of_size (Nat.eq_of_beq_eq_true h4)
        subst this
        exact ⟨h1, i, h2, Nat.eq_of_beq_eq_true h3, hz⟩
      · cases h
    · cases h
  | int k =>
    simp only [okB] at h
    split at h
    · rename_i k' i h1 h2
      split at h
      · rename_i z hz
        simp only [Bool.and_eq_true, decide_eq_true_eq] at h
        obtain ⟨⟨h3, rfl⟩, h4⟩ := h
        cases z <;> simp at h4
        obtain ⟨rfl, rfl⟩ := h4
        exact ⟨h1, i, h2, Nat.eq_of_beq_eq_true h3, hz⟩
      · cases h
    · cases h
  | slice e ty size bytes =>
    simp only [okB] at h
    split at h
    · rename_i e' i j h1 h2 h3
      split at h
      · rename_i z y hz hy
        simp only [Bool.and_eq_true] at h
        obtain ⟨⟨⟨⟨⟨q1, q2⟩, q3⟩, q4⟩, q5⟩, q6⟩ := h
        have q1 := Nat.eq_of_beq_eq_true q1
        have q3 := isNilV_ok q3
        subst q1; subst q3
        have q7 : zR ty y.cells.toList = some [] := by
          revert q6
          cases zR ty y.cells.toList with
          | none => intro h; cases h
          | some l => cases l <;> first | (intro h; cases h; done) | (intro _; rfl)
        obtain ⟨c1, hc, hR⟩ := zR_ok ty q7
        rw [List.append_nil] at hc
        refine ⟨h1, ⟨i, h2, Nat.eq_of_beq_eq_true q2, hz⟩, j, y, h3, Nat.eq_of_beq_eq_true q4, Nat.le_of_ble_eq_true q5, hy, fun w own => ?_⟩
        rw [hc]; exact hR w own
      · cases h
    · cases h
  | arr e ty size len =>
    simp only [okB] at h
    split at h
    · rename_i len' e' i h1 h2
      simp only [Bool.and_eq_true] at h
      obtain ⟨⟨q1, q2⟩, q3⟩ := h
      have q1 := Nat.eq_of_beq_eq_true q1
      have q2 := Nat.eq_of_beq_eq_true q2
      subst q1; subst q2
      exact ⟨h1, i, h2, Nat.eq_of_beq_eq_true q3⟩
    · cases h
  | vec e ty len zero =>
    simp only [okB] at h
    split at h
    · rename_i len' e' i ie de h1 h2 h3 h4
      split at h
      · rename_i z hz
        simp only [Bool.and_eq_true] at h
        obtain ⟨⟨⟨⟨⟨⟨⟨q1, q2⟩, q3⟩, q4⟩, q5⟩, q6⟩, q7⟩, q8⟩ := h
        have q1 := Nat.eq_of_beq_eq_true q1
        have q2 := Nat.eq_of_beq_eq_true q2
        subst q1; subst q2
        obtain ⟨a1, a2⟩ := avsB_ok q7
        exact ⟨Nat.le_of_ble_eq_true q3, h1, ⟨ie, h3, Nat.eq_of_beq_eq_true q4⟩, ⟨de, h4, oneB_ok q5⟩, i, z, h2, Nat.eq_of_beq_eq_true q6, hz, a1, a2, Nat.eq_of_beq_eq_true q8⟩
      · cases h
    · cases h
  | struct fields size zero =>
    simp only [okB] at h
    split at h
    · rename_i fs i h1 h2
      split at h
      · rename_i z hz
        simp only [Bool.and_eq_true] at h
        obtain ⟨⟨⟨q1, q2⟩, q3⟩, q4⟩ := h
        obtain ⟨a1, a2⟩ := avsB_ok q2
        obtain ⟨b1, b2⟩ := fldsB_ok q4
        refine ⟨fs, i, z, h1, h2, Nat.eq_of_beq_eq_true q1, hz, a1, a2, Nat.eq_of_beq_eq_true q3, b1, fun k p hp => ?_⟩
        obtain ⟨f, fi, c1, c2⟩ := b2 k p hp
        exact ⟨f, fi, by simpa using c1, c2⟩
      · cases h
    · cases h

/-! ### Tables, laid out entry by entry -/
theorem ty_nil (T : TypeId) : TI.ok P T ((fun _ => TI.unk) T) := trivial
theorem ty_cons {i : TypeId} {x : TI} (h : okB P i x = true) {rest : TypeId → TI} (r : ∀ T, (rest T).ok P T) (T : TypeId) : TI.ok P T (tyIf i x rest T) := by
  unfold tyIf
  cases hb : Nat.beq T i with
  | true => have := Nat.eq_of_beq_eq_true hb; subst this; exact okB_ok h
  | false => exact r T
def fldB (P : Program) (T : TypeId) (k : Nat) (u : TypeId) : Bool := match P.underlying T with
  | some (.struct fs) => match fs[k]? with
    | some f => Nat.beq f.type u
    | none => false
  | _ => false
theorem fldB_ok {T : TypeId} {k : Nat} {u : TypeId} (h : fldB P T k u = true) : FldOK P T k u := by
  unfold fldB at h
  split at h
  · rename_i fs hu
    split at h
    · rename_i f hf
      exact ⟨fs, f, hu, hf, Nat.eq_of_beq_eq_true h⟩
    · cases h
  · cases h
theorem fld_nil (T : TypeId) (k : Nat) (u : TypeId) (h : (none : Option TypeId) = some u) : FldOK P T k u := by cases h
theorem fld_cons {i : TypeId} {j : Nat} {x : TypeId} (h : fldB P i j x = true) {rest : TypeId → Nat → Option TypeId} (r : ∀ T k u, rest T k = some u → FldOK P T k u) (T : TypeId) (k : Nat) (u : TypeId)
    (he : (bif Nat.beq T i && Nat.beq k j then some x else rest T k) = some u) : FldOK P T k u := by
  cases hb : (Nat.beq T i && Nat.beq k j) with
  | true =>
    rw [hb] at he
    simp only [Bool.and_eq_true] at hb
    have h1 := Nat.eq_of_beq_eq_true hb.1
    have h2 := Nat.eq_of_beq_eq_true hb.2
    subst h1; subst h2; obtain rfl := Option.some.inj he; exact fldB_ok h
  | false => rw [hb] at he; exact r T k u he
theorem fn_nil {gl : Glob} (f : FuncId) (e : FnE) (h : (none : Option FnE) = some e) : Ctr P gl f e := by cases h
theorem fn_cons {gl : Glob} {i : FuncId} {x : FnE} (h : Ctr P gl i x) {rest : FuncId → Option FnE} (r : ∀ f e, rest f = some e → Ctr P gl f e) (f : FuncId) (e : FnE) (he : (bif Nat.beq f i then some x else rest f) = some e) : Ctr P gl f e := by
  cases hb : Nat.beq f i with
  | true => rw [hb] at he; have := Nat.eq_of_beq_eq_true hb; subst this; obtain rfl := Option.some.inj he; exact h
  | false => rw [hb] at he; exact r f e he
/-- A function's own facts, looked at by the kernel. -/
def fnB (fn : Func) (k : Nat) : Bool := fn.body.isSome && !(fn.name == "runtime.NumGoroutine") && goodC fn.ntmps (bodyOf fn) && Nat.ble k fn.ntmps
theorem fnB_ok {f : FuncId} {fn : Func} {k : Nat} (h0 : P.funcs[f]? = some fn) (h : fnB fn k = true) : FnOK P f fn k := by
  simp only [fnB, Bool.and_eq_true, Bool.not_eq_true'] at h
  obtain ⟨⟨⟨q1, q2⟩, q3⟩, q4⟩ := h
  have q0 : fn.body.isNone = false := by cases hb : fn.body <;> rw [hb] at q1 <;> first | rfl | cases q1
  exact ⟨h0, q0, q2, q3, Nat.le_of_ble_eq_true q4⟩
end Go.Proofs.YtlnbcpcnpofnoaaGreatDoor.E

/- A loop is one round and then the loop: the evaluator is monotone, and takes unions of chains. -/
namespace Go.Proofs.YtlnbcpcnpofnoaaGreatDoor.E
open Go Go.RowKit
set_option linter.unusedVariables false
set_option linter.unusedSimpArgs false

variable {Γ : Ctx} {A : Live} {ρ : Type}

/-- An operation goes on with one state. -/
theorem step_one {dr : Bool} {all : List Oper} {t : Bool} {o : Oper} {st : St} {K : St → M ρ} {r : ρ} (h : stepE Γ dr all t o st K r) : ∃ st', K st' r ∧ ∀ {ρ' : Type} {K' : St → M ρ'} {r' : ρ'}, K' st' r' → stepE Γ dr all t o st K' r' := by
  have hres : ∀ res : Res, runRes o.dst st K res r → ∃ st', K st' r ∧ ∀ {ρ' : Type} {K' : St → M ρ'} {r' : ρ'}, K' st' r' → runRes o.dst st K' res r' := by
    intro res
    induction res with
    | fail => exact fun h => h.elim
    | put v => simp only [runRes, force_eq]; exact fun h => ⟨_, h, fun h => h⟩
    | ite p d res ih =>
      simp only [runRes]
      by_cases hp : p
      · simp only [if_pos hp]; exact ih
      · rw [if_neg hp]; exact fun h => h.elim
    | call res tup m kill => simp only [runRes]; exact fun ⟨y, hy, hk⟩ => ⟨_, hk, fun h => ⟨y, hy, h⟩⟩
    | callOwn ty m =>
      simp only [runRes]
      cases hd : o.dst with
      | none => exact fun h => h.elim
      | some d =>
        simp only
        cases hm : st.m d <;> first | exact fun h => h.elim | skip
        exact fun ⟨y, hy, hk⟩ => ⟨_, hk, fun h => ⟨y, hy, h⟩⟩
    | callRow ty res m d app f => simp only [runRes]; exact fun ⟨y, hy, hk⟩ => ⟨_, hk, fun h => ⟨y, hy, h⟩⟩
    | callBox ty res m d off l => simp only [runRes, forceL_eq]; exact fun ⟨y, hy, hk⟩ => ⟨_, hk, fun h => ⟨y, hy, h⟩⟩
    | alloc isP b =>
      simp only [runRes]
      cases hd : o.dst with
      | none => exact fun h => h.elim
      | some d =>
        simp only
        cases hm : st.m d <;> first | exact fun h => h.elim | skip
        simp only [MBforce_eq]
        cases isP <;> exact fun h => ⟨_, h, fun h => h⟩
    | app base ty l kill =>
      simp only [runRes]
      cases hd : o.dst with
      | none => exact fun h => h.elim
      | some d =>
        simp only
        cases hm : st.m d <;> first | exact fun h => h.elim | skip
        exact fun h => ⟨_, h, fun h => h⟩
    | upd d b => simp only [runRes, MBforce_eq]; exact fun h => ⟨_, h, fun h => h⟩
  have hrun : ∀ res : Res, runE t o.dst st K res r → ∃ st', K st' r ∧ ∀ {ρ' : Type} {K' : St → M ρ'} {r' : ρ'}, K' st' r' → runE t o.dst st K' res r' := by
    intro res
    cases t
    · exact hres res
    · intro h
      obtain ⟨u, hu, hk⟩ := outT_run.1 h
      exact ⟨_, hk, fun h => outT_run.2 ⟨u, hu, h⟩⟩
  unfold stepE at h ⊢
  cases hg : o.guard with
  | none => rw [hg] at h; exact hrun _ h
  | some g =>
    rw [hg] at h
    simp only at h ⊢
    cases hd : nthDst all g.1 with
    | none => rw [hd] at h; exact h.elim
    | some d =>
      rw [hd] at h
      simp only at h ⊢
      cases hs : st.s d with
      | t ty b =>
        rw [hs] at h
        cases ty <;> first | exact h.elim | skip
        simp only at h ⊢
        cases hb : b == g.2 with
        | true => rw [hb] at h; exact hrun _ h
        | false => rw [hb] at h; exact ⟨_, h, fun h => h⟩
      | undef => rw [hs] at h; exact ⟨_, h, fun h => h⟩
      | _ => rw [hs] at h; exact h.elim
theorem ops_one {dr : Bool} {all : List Oper} {K : St → M ρ} {r : ρ} : ∀ (rest : List Oper) (k : Nat) (st : St), evOps Γ dr all K rest k st r → ∃ st', K st' r ∧ ∀ {K' : St → M ρ} {r' : ρ}, K' st' r' → evOps Γ dr all K' rest k st r'
  | [], k, st, h => ⟨st, h, fun h => h⟩
  | o :: rest, k, st, h => by
    rw [evOps_cons] at h
    cases hc : (dr && !loud o && !(isExt o || sepAll st.s k o rest rest)) with
    | true => rw [hc] at h; exact h.elim
    | false =>
      rw [hc] at h
      obtain ⟨s1, h1, h2⟩ := step_one h
      obtain ⟨s2, h3, h4⟩ := ops_one rest (k + 1) s1 h1
      refine ⟨s2, h3, fun h => ?_⟩
      rw [evOps_cons, hc]
      exact h2 (h4 h)
theorem catch_one {l : List (Nat × LK)} {st : St} {K : (liveTy l).D → M ρ} {r : ρ} (h : catch_ l st K r) : ∃ x, K x r ∧ ∀ {K' : (liveTy l).D → M ρ} {r' : ρ}, K' x r' → catch_ l st K' r' := by
  unfold catch_ at h ⊢
  cases hb : (apartB (metVal st l) (metRow st l) && nodupB l) with
  | false => rw [hb] at h; exact h.elim
  | true =>
    rw [hb] at h
    simp only at h ⊢
    cases hx : capture st l with
    | none => rw [hx] at h; exact h.elim
    | some x => rw [hx] at h; exact ⟨x, h, fun h => h⟩
def KLe (r : ρ) (Q Q' : Kont ρ) : Prop := ∀ e st, Q e st r → Q' e st r
theorem thn_le {r : ρ} {Q Q' : Kont ρ} {n n' : St → M ρ} (h : KLe r Q Q') (hn : ∀ st, n st r → n' st r) : KLe r (Kont.thn n Q) (Kont.thn n' Q') := by
  intro e st
  cases e with
  | normal => exact hn st
  | exit i => exact h (.exit i) st
  | ret => exact h .ret st
theorem blk_le {r : ρ} {Q Q' : Kont ρ} {id : Nat} (h : KLe r Q Q') : KLe r (Kont.blk id Q) (Kont.blk id Q') := by
  intro e st
  cases e with
  | normal => exact h .normal st
  | exit i =>
    show (bif Nat.beq i id then Q .normal st else Q (.exit i) st) r → (bif Nat.beq i id then Q' .normal st else Q' (.exit i) st) r
    cases Nat.beq i id
    · exact h (.exit i) st
    · exact h .normal st
  | ret => exact h .ret st
end Go.Proofs.YtlnbcpcnpofnoaaGreatDoor.E

/- A loop is one round and then the loop. -/
namespace Go.Proofs.YtlnbcpcnpofnoaaGreatDoor.E
open Go Go.RowKit
set_option linter.unusedVariables false
set_option linter.unusedSimpArgs false

variable {Γ : Ctx} {A : Live} {ρ : Type}

theorem iter_mono {α : Type} {F F' : (α → M ρ) → α → M ρ} {r : ρ} (h : ∀ (p p' : α → M ρ), (∀ x, p x r → p' x r) → ∀ x, F p x r → F' p' x r) : ∀ (k : Nat) (x : α), iterM F k x r → iterM F' k x r
  | 0, _, hh => hh
  | k + 1, x, hh => h _ _ (fun x => iter_mono h k x) x hh
theorem iter_succ {α : Type} {F : (α → M ρ) → α → M ρ} {r : ρ} (h : ∀ (p p' : α → M ρ), (∀ x, p x r → p' x r) → ∀ x, F p x r → F p' x r) : ∀ (k : Nat) (x : α), iterM F k x r → iterM F (k + 1) x r
  | 0, _, hh => hh.elim
  | k + 1, x, hh => h _ _ (fun x => iter_succ h k x) x hh
theorem code_mono {r : ρ} : ∀ (c : Code) (st : St) {Q Q' : Kont ρ}, KLe r Q Q' → evCode Γ A c st Q r → evCode Γ A c st Q' r := by
  intro c
  induction c with
  | skip => intro st Q Q' h hh; exact h _ _ hh
  | region id ops dr =>
    intro st Q Q' h hh
    obtain ⟨s, h1, h2⟩ := ops_one _ _ _ hh
    exact h2 (h .normal s h1)
  | seq x y ihx ihy =>
    intro st Q Q' h hh
    simp only [evCode] at hh ⊢
    cases hA : A (2 * headId y + 1) with
    | none =>
      rw [hA] at hh
      exact ihx st (thn_le h fun st' => ihy st' h) hh
    | some l =>
      rw [hA] at hh
      refine ihx st (thn_le h fun st' h1 => ?_) hh
      obtain ⟨x', h2, h3⟩ := catch_one h1
      exact h3 (ihy _ h h2)
  | cond c x y ihx ihy =>
    intro st Q Q' h hh
    simp only [evCode] at hh ⊢
    cases hv : st.ev c <;> rw [hv] at hh <;> (try simp only at hh ⊢) <;> first | (exact hh.elim) | skip
    · rename_i ty b
      cases ty <;> (try simp only at hh ⊢) <;> first | (exact hh.elim) | skip
      obtain ⟨b, rfl⟩ : ∃ b' : Bool, b' = b := ⟨b, rfl⟩
      cases b
      · rw [if_neg (by simp)] at hh ⊢; exact ihy st h hh
      · rw [if_pos rfl] at hh ⊢; exact ihx st h hh
    · rename_i p d
      by_cases hp : p
      · rw [if_pos hp] at hh ⊢; exact ihx st h hh
      · rw [if_neg hp] at hh ⊢; exact ihy st h hh
    · exact ⟨fun hp => ihx st h (hh.1 hp), ihy st h hh.2⟩
  | block id x ih => intro st Q Q' h hh; exact ih st (blk_le h) hh
  | loop x ih =>
    intro st Q Q' h hh
    simp only [evCode] at hh ⊢
    cases hA : A (2 * headId x) with
    | none => rw [hA] at hh; exact hh.elim
    | some l =>
      rw [hA] at hh
      simp only at hh ⊢
      obtain ⟨x0, ⟨k, h1⟩, h2⟩ := catch_one hh
      refine h2 ⟨k, iter_mono (fun p p' hp y hy => ?_) k x0 h1⟩
      refine ih _ (thn_le h fun st' h3 => ?_) hy
      obtain ⟨z, h4, h5⟩ := catch_one h3
      exact h5 (hp z h4)
  | scope x ih => intro st Q Q' h hh; exact ih st h hh
  | exit id => intro st Q Q' h hh; exact h _ _ hh
  | ret => intro st Q Q' h hh; exact h _ _ hh
  | _ => intros; rename_i hh; exact hh.elim
theorem chain_le {r : ρ} {Q : Nat → Kont ρ} (h : ∀ n, KLe r (Q n) (Q (n + 1))) : ∀ (n m : Nat), n ≤ m → KLe r (Q n) (Q m) := by
  intro n m hnm
  induction m with
  | zero => obtain rfl : n = 0 := by omega
            exact fun _ _ h => h
  | succ m ih =>
    by_cases e : n = m + 1
    · subst e; exact fun _ _ h => h
    · exact fun ex st hh => h m ex st (ih (by omega) ex st hh)
theorem code_chain {r : ρ} : ∀ (c : Code) (st : St) {Q : Nat → Kont ρ} {Q' : Kont ρ}, (∀ n, KLe r (Q n) (Q (n + 1))) → (∀ e st, Q' e st r → ∃ n, Q n e st r) → evCode Γ A c st Q' r → ∃ n, evCode Γ A c st (Q n) r := by
  intro c
  have thn_ch : ∀ {Q : Nat → Kont ρ} {Q' : Kont ρ} {m : Nat → St → M ρ} {m' : St → M ρ}, (∀ e st, Q' e st r → ∃ n, Q n e st r) → (∀ st, m' st r → ∃ n, m n st r) → ∀ e st, Kont.thn m' Q' e st r → ∃ n, Kont.thn (m n) (Q n) e st r := by
    intro Q Q' m m' h1 h2 e st
    cases e with
    | normal => exact h2 st
    | exit i => exact h1 (.exit i) st
    | ret => exact h1 .ret st
  induction c with
  | skip => intro st Q Q' h1 h2 hh; exact h2 _ _ hh
  | region id ops dr =>
    intro st Q Q' h1 h2 hh
    obtain ⟨s, q1, q2⟩ := ops_one _ _ _ hh
    obtain ⟨n, hn⟩ := h2 .normal s q1
    exact ⟨n, q2 hn⟩
  | seq x y ihx ihy =>
    intro st Q Q' h1 h2 hh
    simp only [evCode] at hh ⊢
    cases hA : A (2 * headId y + 1) with
    | none =>
      rw [hA] at hh
      exact ihx st (Q := fun n => Kont.thn (fun st' => evCode Γ A y st' (Q n)) (Q n)) (fun n => thn_le (h1 n) fun st' => code_mono y st' (h1 n)) (thn_ch h2 fun st' => ihy st' h1 h2) hh
    | some l =>
      rw [hA] at hh
      refine ihx st (Q := fun n => Kont.thn (fun st' => catch_ l st' (joinM fun x => evCode Γ A y (restore l x st0) (Q n))) (Q n)) (fun n => thn_le (h1 n) fun st' h3 => ?_) (thn_ch h2 fun st' h3 => ?_) hh
      · obtain ⟨x', q1, q2⟩ := catch_one h3
        exact q2 (code_mono y _ (h1 n) q1)
      · obtain ⟨x', q1, q2⟩ := catch_one h3
        obtain ⟨n, hn⟩ := ihy _ h1 h2 q1
        exact ⟨n, q2 hn⟩
  | cond c x y ihx ihy =>
    intro st Q Q' h1 h2 hh
    simp only [evCode] at hh ⊢
    cases hv : st.ev c <;> rw [hv] at hh <;> (try simp only at hh ⊢) <;> first | (exact hh.elim) | skip
    · rename_i ty b
      cases ty <;> (try simp only at hh ⊢) <;> first | (exact hh.elim) | skip
      obtain ⟨b, rfl⟩ : ∃ b' : Bool, b' = b := ⟨b, rfl⟩
      cases b
      · rw [if_neg (by simp)] at hh
        obtain ⟨n, hn⟩ := ihy st h1 h2 hh
        exact ⟨n, by rw [if_neg (by simp)]; exact hn⟩
      · rw [if_pos rfl] at hh
        obtain ⟨n, hn⟩ := ihx st h1 h2 hh
        exact ⟨n, by rw [if_pos rfl]; exact hn⟩
    · rename_i p d
      by_cases hp : p
      · rw [if_pos hp] at hh
        obtain ⟨n, hn⟩ := ihx st h1 h2 hh
        exact ⟨n, by rw [if_pos hp]; exact hn⟩
      · rw [if_neg hp] at hh
        obtain ⟨n, hn⟩ := ihy st h1 h2 hh
        exact ⟨n, by rw [if_neg hp]; exact hn⟩
    · rename_i p
      obtain ⟨n, hn⟩ := ihy st h1 h2 hh.2
      by_cases hp : p
      · obtain ⟨m, hm⟩ := ihx st h1 h2 (hh.1 hp)
        exact ⟨max n m, fun _ => code_mono x st (chain_le h1 m _ (Nat.le_max_right _ _)) hm, code_mono y st (chain_le h1 n _ (Nat.le_max_left _ _)) hn⟩
      · exact ⟨n, fun h => absurd h hp, hn⟩
  | block id x ih =>
    intro st Q Q' h1 h2 hh
    refine ih st (Q := fun n => Kont.blk id (Q n)) (fun n => blk_le (h1 n)) (fun e st' h3 => ?_) hh
    cases e with
    | normal => exact h2 .normal st' h3
    | exit i =>
      have h3 : (bif Nat.beq i id then Q' .normal st' else Q' (.exit i) st') r := h3
      show ∃ n, (bif Nat.beq i id then Q n .normal st' else Q n (.exit i) st') r
      cases hb : Nat.beq i id with
      | true => rw [hb] at h3; exact h2 .normal st' h3
      | false => rw [hb] at h3; exact h2 (.exit i) st' h3
    | ret => exact h2 .ret st' h3
  | loop x ih =>
    intro st Q Q' h1 h2 hh
    simp only [evCode] at hh ⊢
    cases hA : A (2 * headId x) with
    | none => rw [hA] at hh; exact hh.elim
    | some l =>
      rw [hA] at hh
      simp only at hh ⊢
      obtain ⟨x0, ⟨k, q1⟩, q2⟩ := catch_one hh
      have Fm : ∀ n (p p' : (liveTy l).D → M ρ), (∀ x, p x r → p' x r) → ∀ y, evCode Γ A x (restore l y st0) (Kont.thn (fun st' => catch_ l st' p) (Q n)) r → evCode Γ A x (restore l y st0) (Kont.thn (fun st' => catch_ l st' p') (Q (n + 1))) r := by
        intro n p p' hp y hy
        refine code_mono x _ (thn_le (h1 n) fun st' h3 => ?_) hy
        obtain ⟨z, h4, h5⟩ := catch_one h3
        exact h5 (hp z h4)
      have key : ∀ (k : Nat) (y : (liveTy l).D), iterM (fun rec y => evCode Γ A x (restore l y st0) (Kont.thn (fun st' => catch_ l st' rec) Q')) k y r → ∃ n, iterM (fun rec y => evCode Γ A x (restore l y st0) (Kont.thn (fun st' => catch_ l st' rec) (Q n))) k y r := by
        intro k
        induction k with
        | zero => exact fun y h => h.elim
        | succ k ihk =>
          intro y hy
          refine ih _ (Q := fun n => Kont.thn (fun st' => catch_ l st' (iterM (fun rec y => evCode Γ A x (restore l y st0) (Kont.thn (fun st' => catch_ l st' rec) (Q n))) k)) (Q n)) (fun n => thn_le (h1 n) fun st' h3 => ?_) (thn_ch h2 fun st' h3 => ?_) hy
          · obtain ⟨z, h4, h5⟩ := catch_one h3
            exact h5 (iter_mono (fun p p' hp y hy => Fm n p p' hp y hy) k z h4)
          · obtain ⟨z, h4, h5⟩ := catch_one h3
            obtain ⟨n, hn⟩ := ihk z h4
            exact ⟨n, h5 hn⟩
      obtain ⟨n, hn⟩ := key k x0 q1
      exact ⟨n, q2 ⟨k, hn⟩⟩
  | scope x ih => intro st Q Q' h1 h2 hh; exact ih st h1 h2 hh
  | exit id => intro st Q Q' h1 h2 hh; exact h2 _ _ hh
  | ret => intro st Q Q' h1 h2 hh; exact h2 _ _ hh
  | _ => intros; rename_i hh; exact hh.elim
/-- One round, then the loop: that is the loop. -/
theorem loop_step {l : List (Nat × LK)} {cq : Code × Kont ρ} {x : (liveTy l).D} {r : ρ} (h : roundOf Γ A l cq (loopOf Γ A l cq) x r) : loopOf Γ A l cq x r := by
  obtain ⟨c, Q⟩ := cq
  unfold roundOf loopOf at h
  unfold loopOf
  cases c <;> simp only at h ⊢ <;> first | exact h.elim | skip
  rename_i a
  have Fm : ∀ (p p' : (liveTy l).D → M ρ), (∀ x, p x r → p' x r) → ∀ y, evCode Γ A a (restore l y st0) (Kont.thn (fun st' => catch_ l st' p) Q) r → evCode Γ A a (restore l y st0) (Kont.thn (fun st' => catch_ l st' p') Q) r := by
    intro p p' hp y hy
    refine code_mono a _ (thn_le (fun _ _ h => h) fun st' h3 => ?_) hy
    obtain ⟨z, h4, h5⟩ := catch_one h3
    exact h5 (hp z h4)
  obtain ⟨n, hn⟩ := code_chain a (restore l x st0) (Q := fun n => Kont.thn (fun st' => catch_ l st' (iterM (fun rec x => evCode Γ A a (restore l x st0) (Kont.thn (fun st' => catch_ l st' rec) Q)) n)) Q)
    (fun n => thn_le (fun _ _ h => h) fun st' h3 => by
      obtain ⟨z, h4, h5⟩ := catch_one h3
      exact h5 (iter_succ Fm n z h4))
    (fun e st' h3 => by
      cases e with
      | normal =>
        obtain ⟨z, ⟨n, h4⟩, h5⟩ := catch_one h3
        exact ⟨n, h5 h4⟩
      | exit i => exact ⟨0, h3⟩
      | ret => exact ⟨0, h3⟩) h
  exact ⟨n + 1, hn⟩
end Go.Proofs.YtlnbcpcnpofnoaaGreatDoor.E

/- Structs of plain fields that are held against one another: what the program does is what the evaluator does. -/
namespace Go.Proofs.YtlnbcpcnpofnoaaGreatDoor.E
open Go Go.RowKit
set_option linter.unusedVariables false

section
variable {P : Program} {d : Nat} {xs ys : Array Value} {f : Field} {fs : List Field} {a b : Value} {r s : Bool} {w : World}
theorem eqf_last (hn : (f.name != "_") = true) (ha : (Go.part f.type xs f.offset).run P w = .ok a w) (hb : (Go.part f.type ys f.offset).run P w = .ok b w) (he : (Op.equalIn d f.type a b).run P w = .ok r w) : (Op.eqFields d xs ys [f]).run P w = .ok r w := by
  have hn' : f.name ≠ "_" := by simpa using hn
  simp only [Op.eqFields, if_pos hn', Sem.run_bind, ha, hb, he, Result.andThen_ok]
  cases r <;> simp
theorem eqf_cons (hn : (f.name != "_") = true) (ha : (Go.part f.type xs f.offset).run P w = .ok a w) (hb : (Go.part f.type ys f.offset).run P w = .ok b w) (he : (Op.equalIn d f.type a b).run P w = .ok r w) (hr : (Op.eqFields d xs ys fs).run P w = .ok s w) : (Op.eqFields d xs ys (f :: fs)).run P w = .ok (r && s) w := by
  have hn' : f.name ≠ "_" := by simpa using hn
  rw [Op.eqFields]
  simp only [if_pos hn', Sem.run_bind, ha, hb, he, Result.andThen_ok]
  cases r
  · simp
  · simpa using hr
end
def leafB (P : Program) (T : TypeId) (t : Ty) : Bool := match P.underlying T, t with
  | some (.int k), .int j => decide (k = j)
  | some .bool, .bool => true
  | some .string, .str => true
  | _, _ => false
def eqFieldsB (P : Program) : List Field → Nat → Ty → Bool
  | [f], o, t => (f.name != "_") && Nat.beq f.offset o && leafB P f.type t
  | f :: g :: r, o, .pair a b => (f.name != "_") && Nat.beq f.offset o && leafB P f.type a && eqFieldsB P (g :: r) (o + 1) b
  | _, _, _ => false
def eqArrB (P : Program) (e : TypeId) : Nat → Ty → Bool
  | 1, t => leafB P e t
  | n + 2, .pair a b => leafB P e a && eqArrB P e (n + 1) b
  | _, _ => false
def eqOKB (P : Program) (t : TypeId) (ty : Ty) : Bool := !(P.eqGuardType P.depth t) && !(P.stoodInHeld t) && match P.underlying t with
  | some (.struct fs) => eqFieldsB P fs.toList 0 ty
  | some (.array len e) => eqArrB P e len ty && match P.info? e with
    | some i => Nat.beq i.size 1
    | none => false
  | _ => false
theorem dec_iff {p : Prop} (d : Decidable p) : @decide p d = true ↔ p := decide_eq_true_iff
theorem leaf_eq {P : Program} {T : TypeId} {t : Ty} (h : leafB P T t = true) {w : World} {own : Nat → Prop} {x y : t.D} {cs ds : List Value} (hx : R w own t x cs) (hy : R w own t y ds) (d : Nat) :
    ∃ a b, cs = [a] ∧ ds = [b] ∧ P.plainKey T = true ∧ (Op.equalIn (d + 1) T a b).run P w = .ok (@decide (eqP t x y) (eqD t x y)) w := by
  unfold leafB at h
  split at h
  · rename_i k j hu
    obtain rfl := of_decide_eq_true h
    simp only [R] at hx hy
    refine ⟨_, _, hx, hy, by simp [Program.plainKey, hu], ?_⟩
    rw [run_equalIn_int w d T k k x y hu]
    rfl
  · rename_i hu
    simp only [R] at hx hy
    refine ⟨_, _, hx, hy, by simp [Program.plainKey, hu], ?_⟩
    rw [run_equalIn_bool' w d T x y hu]
    rfl
  · rename_i hu
    simp only [R] at hx hy
    refine ⟨_, _, hx, hy, by simp [Program.plainKey, hu], ?_⟩
    rw [run_equalIn_string w d T x y hu]
    congr 1
    rw [Bool.eq_iff_iff]
    exact str_inj.trans (dec_iff (eqD .str x y)).symm
  · cases h
theorem at_drop {xs : Array Value} {o : Nat} {a : Value} {r : List Value} (h : xs.toList.drop o = a :: r) : xs[o]? = some a := by
  have : (xs.toList.drop o)[0]? = some a := by rw [h]; rfl
  rw [List.getElem?_drop] at this
  simpa using this
theorem fields_eq {P : Program} {d : Nat} {w : World} {own : Nat → Prop} {xs ys : Array Value} : ∀ {fs : List Field} {o : Nat} {t : Ty}, eqFieldsB P fs o t = true → ∀ {x y : t.D}, R w own t x (xs.toList.drop o) → R w own t y (ys.toList.drop o) →
    (Op.eqFields (d + 1) xs ys fs).run P w = .ok (@decide (eqP t x y) (eqD t x y)) w
  | [f], o, t, h, x, y, hx, hy => by
    have h : ((f.name != "_") && Nat.beq f.offset o && leafB P f.type t) = true := by
      cases t <;> exact h
    simp only [Bool.and_eq_true] at h
    obtain ⟨⟨hn, ho⟩, hl⟩ := h
    have ho := Nat.eq_of_beq_eq_true ho
    obtain ⟨a, b, ha, hb, hk, he⟩ := leaf_eq hl hx hy d
    exact eqf_last hn (run_part_plain w hk (by rw [ho]; exact at_drop ha)) (run_part_plain w hk (by rw [ho]; exact at_drop hb)) he
  | f :: g :: r, o, .pair u v, h, x, y, hx, hy => by
    unfold eqFieldsB at h
    simp only [Bool.and_eq_true] at h
    obtain ⟨⟨⟨hn, ho⟩, hl⟩, hr⟩ := h
    have ho := Nat.eq_of_beq_eq_true ho
    simp only [R] at hx hy
    obtain ⟨c1, c2, hc, hx1, hx2⟩ := hx
    obtain ⟨d1, d2, hd, hy1, hy2⟩ := hy
    obtain ⟨a, b, rfl, rfl, hk, he⟩ := leaf_eq hl hx1 hy1 d
    have e1 : xs.toList.drop (o + 1) = c2 := by
      have := congrArg (List.drop 1) hc
      rw [List.drop_drop] at this
      simpa using this
    have e2 : ys.toList.drop (o + 1) = d2 := by
      have := congrArg (List.drop 1) hd
      rw [List.drop_drop] at this
      simpa using this
    have ih := fields_eq (d := d) hr (by rw [e1]; exact hx2) (by rw [e2]; exact hy2)
    have := eqf_cons hn (run_part_plain w hk (by rw [ho]; exact at_drop hc)) (run_part_plain w hk (by rw [ho]; exact at_drop hd)) he ih
    rw [this]
    congr 1
    rw [Bool.eq_iff_iff, Bool.and_eq_true]
    exact (and_congr (dec_iff (eqD u x.1 y.1)) (dec_iff (eqD v x.2 y.2))).trans (dec_iff (eqD (.pair u v) x y)).symm
  | [], _, t, h, _, _, _, _ => by cases t <;> cases h
  | f :: g :: r, o, .int _, h, _, _, _, _ => by cases h
  | f :: g :: r, o, .bool, h, _, _, _, _ => by cases h
  | f :: g :: r, o, .str, h, _, _, _, _ => by cases h
  | f :: g :: r, o, .nil, h, _, _, _, _ => by cases h
  | f :: g :: r, o, .any, h, _, _, _, _ => by cases h
  | f :: g :: r, o, .lst _, h, _, _, _, _ => by cases h
  | f :: g :: r, o, .agg _, h, _, _, _, _ => by cases h
/-- An array's cells, one by one. -/
def eqCells (P : Program) (d : Nat) (e : TypeId) (xs ys : Array Value) : List Nat → Sem Bool
  | [] => pure true
  | i :: r => do
    let a ← Go.part e xs i
    let b ← Go.part e ys i
    let q ← Op.equalIn d e a b
    if (!q) = true then pure false else eqCells P d e xs ys r
theorem run_equalIn_arr {P : Program} (w : World) (d : Nat) {t e : TypeId} {len : Nat} {i : TypeInfo} (xs ys : Array Value) (ht : P.underlying t = some (.array len e)) (hi : P.info? e = some i) (h1 : i.size = 1) :
    (Op.equalIn (d + 1) t (.agg xs) (.agg ys)).run P w = (eqCells P d e xs ys (List.range' 0 len)).run P w := by
  simp only [Op.equalIn, Sem.run_bind, run_underlying ht, Result.andThen_ok, run_sizeOf hi, h1, Nat.mul_one]
  rw [Std.Legacy.Range.forIn_eq_forIn_range']
  simp only [Std.Legacy.Range.size, Nat.sub_zero, Nat.add_sub_cancel, Nat.div_one]
  generalize List.range' 0 len = is
  clear ht
  induction is generalizing w with
  | nil => simp [eqCells]
  | cons f fs ih =>
    simp only [List.forIn_cons, eqCells, Sem.run_bind, Sem.run_ite]
    generalize (Go.part e xs f).run P w = r1
    cases r1 with
    | ok a w1 =>
      simp only [Result.andThen_ok]
      generalize (Go.part e ys f).run P w1 = r2
      cases r2 with
      | ok b w2 =>
        simp only [Result.andThen_ok]
        generalize (Op.equalIn d e a b).run P w2 = r3
        cases r3 with
        | ok r w3 =>
          cases r
          · simp only [Result.andThen_ok, Bool.not_false, if_true, Sem.run_pure]
          · simp only [Result.andThen_ok, Bool.not_true, Bool.false_eq_true, if_false, Sem.run_pure]
            exact ih w3
        | halt x w3 => simp [Result.andThen]
      | halt x w2 => simp [Result.andThen]
    | halt x w1 => simp [Result.andThen]
theorem cells_eq {P : Program} {d : Nat} {w : World} {own : Nat → Prop} {e : TypeId} {xs ys : Array Value} : ∀ {n o : Nat} {t : Ty}, eqArrB P e n t = true → ∀ {x y : t.D}, R w own t x (xs.toList.drop o) → R w own t y (ys.toList.drop o) →
    (eqCells P (d + 1) e xs ys (List.range' o n)).run P w = .ok (@decide (eqP t x y) (eqD t x y)) w
  | 1, o, t, h, x, y, hx, hy => by
    have h : leafB P e t = true := by cases t <;> exact h
    obtain ⟨a, b, ha, hb, hk, he⟩ := leaf_eq h hx hy d
    simp only [List.range', eqCells, Sem.run_bind, run_part_plain w hk (at_drop ha), run_part_plain w hk (at_drop hb), he, Result.andThen_ok]
    cases @decide (eqP t x y) (eqD t x y) <;> simp
  | n + 2, o, .pair u v, h, x, y, hx, hy => by
    unfold eqArrB at h
    simp only [Bool.and_eq_true] at h
    obtain ⟨hl, hr⟩ := h
    simp only [R] at hx hy
    obtain ⟨c1, c2, hc, hx1, hx2⟩ := hx
    obtain ⟨d1, d2, hd, hy1, hy2⟩ := hy
    obtain ⟨a, b, rfl, rfl, hk, he⟩ := leaf_eq hl hx1 hy1 d
    have e1 : xs.toList.drop (o + 1) = c2 := by
      have := congrArg (List.drop 1) hc
      rw [List.drop_drop] at this
      simpa using this
    have e2 : ys.toList.drop (o + 1) = d2 := by
      have := congrArg (List.drop 1) hd
      rw [List.drop_drop] at this
      simpa using this
    have ih := cells_eq (d := d) (n := n + 1) (o := o + 1) hr (by rw [e1]; exact hx2) (by rw [e2]; exact hy2)
    have e3 : List.range' o (n + 2) = o :: List.range' (o + 1) (n + 1) := rfl
    rw [e3, eqCells]
    simp only [Sem.run_bind, run_part_plain w hk (at_drop hc), run_part_plain w hk (at_drop hd), he, Result.andThen_ok, Sem.run_ite, ih]
    have e4 : (@decide (eqP (.pair u v) x y) (eqD (.pair u v) x y)) = (@decide (eqP u x.1 y.1) (eqD u x.1 y.1) && @decide (eqP v x.2 y.2) (eqD v x.2 y.2)) := by
      rw [Bool.eq_iff_iff, Bool.and_eq_true]
      exact ((and_congr (dec_iff (eqD u x.1 y.1)) (dec_iff (eqD v x.2 y.2))).trans (dec_iff (eqD (.pair u v) x y)).symm).symm
    rw [e4]
    cases @decide (eqP u x.1 y.1) (eqD u x.1 y.1) <;> simp
  | 0, o, t, h, _, _, _, _ => by cases t <;> cases h
  | n + 2, o, .int _, h, _, _, _, _ => by cases h
  | n + 2, o, .bool, h, _, _, _, _ => by cases h
  | n + 2, o, .str, h, _, _, _, _ => by cases h
  | n + 2, o, .nil, h, _, _, _, _ => by cases h
  | n + 2, o, .any, h, _, _, _, _ => by cases h
  | n + 2, o, .lst _, h, _, _, _, _ => by cases h
  | n + 2, o, .agg _, h, _, _, _, _ => by cases h
theorem eqOK_of {P : Program} {t : TypeId} {ty : Ty} (h : eqOKB P t ty = true) : EqOK P t ty := by
  unfold eqOKB at h
  simp only [Bool.and_eq_true, Bool.not_eq_true'] at h
  obtain ⟨⟨h1, h2⟩, h3⟩ := h
  refine ⟨h1, fun w own x y cs ds hx hy => ?_⟩
  split at h3
  · rename_i fs hu
    have hf : P.fieldsOf t = fs := by simp [Program.fieldsOf, hu]
    rw [run_equalIn_struct (P := P) w 9999 t cs ds (by rw [hf]; exact hu) h2, hf]
    exact fields_eq (d := 9998) h3 (by simpa using hx) (by simpa using hy)
  · rename_i len e hu
    simp only [Bool.and_eq_true] at h3
    obtain ⟨h3, h4⟩ := h3
    split at h4
    · rename_i i hi
      rw [run_equalIn_arr w 9999 cs ds hu hi (Nat.eq_of_beq_eq_true h4)]
      exact cells_eq (d := 9998) h3 (by simpa using hx) (by simpa using hy)
    · cases h4
  · cases h3
theorem eq_cons {P : Program} {t : TypeId} {ty : Ty} {rest : TypeId → Option Ty} (h : eqOKB P t ty = true) (hr : ∀ T u, rest T = some u → EqOK P T u) : ∀ T u, (bif Nat.beq T t then some ty else rest T) = some u → EqOK P T u := by
  intro T u hu
  cases hb : Nat.beq T t with
  | true =>
    rw [hb] at hu
    obtain rfl := Option.some.inj hu
    rw [Nat.eq_of_beq_eq_true hb]
    exact eqOK_of h
  | false => rw [hb] at hu; exact hr T u hu
end Go.Proofs.YtlnbcpcnpofnoaaGreatDoor.E
