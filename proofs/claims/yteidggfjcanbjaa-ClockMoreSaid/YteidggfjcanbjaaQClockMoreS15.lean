/- Regions: in their own order, and in any order that may be drawn. -/
import Derived.Test.YteidggfjcanbjaaQClockMoreS14
import Derived.Still
namespace Go.Proofs.Yteidggfjcanbjaa.E
open Go Go.RowKit
set_option linter.unusedVariables false
set_option linter.unusedSimpArgs false

variable {P : Program} {X : Nat → Prop} {F : Root} {w0 : World} {n : Nat} {G : Gh} {st : St} {a : Act} {w : World} {o : Oper}

/-! ### One operation -/
theorem OpOK.of_m {st st' : St} (hm : st.m = st'.m) : ∀ {res : Res}, OpOK P X G st o a w res → OpOK P X G st' o a w res := by
  have hk : ∀ ks : List Nat, (st.kill ks).m = (st'.kill ks).m := by
    intro ks
    induction ks with
    | nil => exact hm
    | cons d ks ih => simp only [St.kill, set_eq]; rw [ih]
  intro res
  induction res with
  | fail => exact id
  | put v => intro h; simp only [OpOK] at h ⊢; rw [← hm]; exact h
  | ite p d r ih => intro h hp; exact ih (h hp)
  | call res tup m kill => intro h; simp only [OpOK] at h ⊢; rw [← hk]; exact h
  | callOwn ty m => intro h; simp only [OpOK] at h ⊢; rw [← hm]; exact h
  | callRow ty res m d app f => intro h; simp only [OpOK] at h ⊢; rw [← hm]; exact h
  | callBox ty res m d off l => intro h; simp only [OpOK] at h ⊢; rw [← hm]; exact h
  | alloc isP b =>
    intro h
    cases isP <;> cases b <;> first | exact h.elim | (simp only [OpOK] at h ⊢; rw [← hm]; exact h) | skip
    rename_i app ty l
    cases app
    · exact h.elim
    · simp only [OpOK] at h ⊢
      rw [← hm]; exact h
  | app base ty l kill => intro h; simp only [OpOK] at h ⊢; rw [← hk, ← hm]; exact h
  | upd d b => intro h; simp only [OpOK] at h ⊢; rw [← hm]; exact h
theorem OpOK.hush : ∀ {res : Res}, OpOK P X G st o a w res → OpOK P X G st o a w res.hush := by
  intro res
  induction res with
  | ite p d r ih => intro h hp; exact ih (h hp)
  | call res tup m kill => intro h; cases kill <;> first | exact h | trivial
  | fail => exact id
  | put v => exact id
  | callOwn ty m => exact id
  | callRow ty res m d app f => intro h; trivial
  | callBox ty res m d off l => intro h; trivial
  | alloc isP b => exact id
  | app base ty l kill => intro h; trivial
  | upd d b => intro h; trivial
theorem OpOK.tame {dr : Bool} {res : Res} (h : OpOK P X G st o a w res) : OpOK P X G st o a w (res.tame dr o) := by
  unfold Res.tame
  cases dr && !loud o
  · exact h
  · exact h.hush
theorem narrow (E : EnvR X F w0 n G st a w) (o : Oper) : EnvR X F w0 n G ⟨restr o st.s, st.m⟩ a w := by
  refine ⟨fun t => ?_, E.mems, E.disj, E.notX, E.fresh, E.xlt, E.defers, E.size, E.os, E.tape, E.output, E.grown, E.keep, E.root⟩
  show AR _ _ _ _ (bif memN t (tmpsOf o) then st.s t else .dead) _
  cases memN t (tmpsOf o)
  · trivial
  · exact E.slots t
/-- What stays as it is while a call lasts: its program, and what it starts from. -/
structure Home (P : Program) (Γ : Ctx) (X : Nat → Prop) (F : Root) (w0 : World) : Prop where
  ctx : CtxOK P Γ
  laid : LaidG Γ.glob w0
  glob : ∀ g v, Γ.glob g = some v → ¬ X g ∧ ¬ F g
theorem Home.lt {Γ : Ctx} (H : Home P Γ X F w0) {g : Nat} {v : IntKind × List Int} (h : Γ.glob g = some v) : g < w0.heap.size := by
  obtain ⟨e, cs, fr, hh, _⟩ := H.laid g v.1 v.2 h
  exact (Array.getElem?_eq_some_iff.1 hh).1
theorem Home.now {Γ : Ctx} (H : Home P Γ X F w0) (E : EnvR X F w0 n G st a w) : LaidG Γ.glob w ∧ ∀ g v, Γ.glob g = some v → ¬ Own X G.β st.m g := by
  refine ⟨fun g k l h => ?_, fun g v h hown => ?_⟩
  · obtain ⟨e, cs, fr, hh, hc⟩ := H.laid g k l h
    exact ⟨e, cs, fr, by rw [E.keep g (H.lt h) (H.glob g _ h).2]; exact hh, hc⟩
  · rcases hown with hx | ⟨d, hd⟩
    · exact (H.glob g v h).1 hx
    · rcases E.fresh d g hd with hf | hf
      · have := H.lt h; omega
      · exact (H.glob g v h).2 hf
theorem op_ok {Γ : Ctx} (H : Home P Γ X F w0) (E : EnvR X F w0 n G st a w) (dr : Bool) (o : Oper) : OpOK P X G st o a w ((evOp Γ o (lookOf dr o st.s st.m)).tame dr o) := by
  refine OpOK.tame ?_
  cases dr
  · obtain ⟨h1, h2⟩ := H.now E
    exact evOp_ok E H.ctx h1 h2
  · have E' := narrow E o
    obtain ⟨h1, h2⟩ := H.now E'
    have h := evOp_ok (o := o) E' H.ctx h1 h2
    exact OpOK.of_m (st := ⟨restr o st.s, st.m⟩) (st' := st) rfl h
theorem runTest_ok (E : EnvR X F w0 n G st a w) {o : Oper} (hd : ∀ d, o.dst = some d → d < n) {ρ : Type} {K : St → M ρ} {r : ρ} {Q : Exit → Act → World → Prop} :
    ∀ {res : Res}, OpOK P X G st o a w res → runTest o.dst st K res r → o.wp P a w (Goes X F w0 n fun st => K st r) Q := by
  intro res ok h
  unfold runTest at h
  split at h
  · rename_i p d
    obtain ⟨x, w', hr, hg, hv⟩ := ok
    simp only [AR] at hv
    subst hv
    by_cases hp : p
    · rw [if_pos hp] at h
      exact wp_value hr ⟨G, _, (E.grows hg).1.put o.dst hd (v := .t .bool true) (by rw [show @decide p d = true from decide_eq_true hp]; exact bool_VR _ _ true), h⟩
    · rw [if_neg hp] at h
      exact wp_value hr ⟨G, _, (E.grows hg).1.put o.dst hd (v := .t .bool false) (by rw [show @decide p d = false from decide_eq_false hp]; exact bool_VR _ _ false), h⟩
  · rename_i b
    obtain ⟨x, w', hr, hg, hv⟩ := ok
    have hx := VR_bool hv
    subst hx
    cases b
    · rw [if_neg (by simp)] at h
      exact wp_value hr ⟨G, _, (E.grows hg).1.put o.dst hd (v := .t .bool false) (bool_VR _ _ false), h⟩
    · rw [if_pos rfl] at h
      exact wp_value hr ⟨G, _, (E.grows hg).1.put o.dst hd (v := .t .bool true) (bool_VR _ _ true), h⟩
  · exact h.elim
def runE {ρ : Type} (t : Bool) (dst : Option Nat) (st : St) (K : St → M ρ) (res : Res) : M ρ := match t with
  | true => runTest dst st K res
  | false => runRes dst st K res
theorem runE_ok (E : EnvR X F w0 n G st a w) {o : Oper} (hd : ∀ d, o.dst = some d → d < n) {ρ : Type} {K : St → M ρ} {r : ρ} {Q : Exit → Act → World → Prop} {t : Bool} {res : Res}
    (ok : OpOK P X G st o a w res) (h : runE t o.dst st K res r) : o.wp P a w (Goes X F w0 n fun st => K st r) Q := by
  cases t
  · exact runRes_ok E hd ok h
  · exact runTest_ok E hd ok h
/-- One operation of a region. -/
def stepE {ρ : Type} (Γ : Ctx) (dr : Bool) (all : List Oper) (t : Bool) (o : Oper) (st : St) (K : St → M ρ) : M ρ :=
  match o.guard with
  | none => runE t o.dst st K ((evOp Γ o (lookOf dr o st.s st.m)).tame dr o)
  | some g => match nthDst all g.1 with
    | none => M.none
    | some d => match st.s d with
      | .t .bool b => match b == g.2 with
        | true => runE t o.dst st K ((evOp Γ o (lookOf dr o st.s st.m)).tame dr o)
        | false => K (st.put o.dst .undef)
      | .undef => K (st.put o.dst .undef)
      | _ => M.none
theorem evOps_cons {ρ : Type} (Γ : Ctx) (dr : Bool) (all : List Oper) (K : St → M ρ) (o : Oper) (rest : List Oper) (k : Nat) (st : St) :
    evOps Γ dr all K (o :: rest) k st = match dr && !loud o && !(isExt o || sepAll st.s k o rest rest) with
      | true => M.none
      | false => stepE Γ dr all (isTest k rest) o st (fun st => evOps Γ dr all K rest (k + 1) st) := by
  obtain ⟨s, m⟩ := st
  unfold stepE runE
  rw [evOps]
  cases isTest k rest <;> rfl
theorem nthDst_eq : ∀ (all : List Oper) (i : Nat), nthDst all i = all[i]?.bind (·.dst)
  | [], _ => by simp [nthDst]
  | o :: l, 0 => by simp [nthDst]
  | o :: l, i + 1 => by simp [nthDst, nthDst_eq l i]
theorem yielded_eq (E : EnvR X F w0 n G st a w) {all : List Oper} (hn : ∀ o ∈ all, ∀ d, o.dst = some d → d < n) {i d : Nat} (hd : nthDst all i = some d) : yielded all.toArray a.tmps i = match a.tmps.getD d undef with | .bool b => some b | _ => none := by
  rw [nthDst_eq] at hd
  cases ho : all[i]? with
  | none => rw [ho] at hd; cases hd
  | some o =>
    rw [ho] at hd
    have hdn : d < a.tmps.size := by rw [E.size]; exact hn o (List.mem_of_getElem? ho) d hd
    unfold yielded
    simp only [List.getElem?_toArray, ho, Option.bind_some] at hd ⊢
    rw [hd]
    simp only [Option.bind_some, Array.getD_eq_getD_getElem?, Array.getElem?_eq_getElem hdn, Option.getD_some]
    cases a.tmps[d] <;> rfl
def StepOK (P : Program) (ops : Array Oper) (o : Oper) (a : Act) (w : World) (K : Act → World → Prop) (Q : Exit → Act → World → Prop) : Prop :=
  if Region.wanted o (yielded ops a.tmps) then o.wp P a w K Q else K (a.put o.dst undef) w
theorem stepE_ok {Γ : Ctx} (H : Home P Γ X F w0) (E : EnvR X F w0 n G st a w) {dr : Bool} {all : List Oper} (hn : ∀ o ∈ all, ∀ d, o.dst = some d → d < n) {t : Bool} {o : Oper} (ho : o ∈ all) {ρ : Type} {K : St → M ρ} {r : ρ} {Q : Exit → Act → World → Prop}
    (h : stepE Γ dr all t o st K r) : StepOK P all.toArray o a w (Goes X F w0 n fun st => K st r) Q := by
  have hop := op_ok H E dr o
  unfold stepE at h
  cases hg : o.guard with
  | none =>
    rw [hg] at h
    simp only at h
    have hwv : Region.wanted o (yielded all.toArray a.tmps) = true := by unfold Region.wanted; rw [hg]
    unfold StepOK
    rw [hwv, if_pos rfl]
    exact runE_ok E (hn o ho) hop h
  | some g =>
    rw [hg] at h
    simp only at h
    cases hd : nthDst all g.1 with
    | none => rw [hd] at h; exact h.elim
    | some d =>
      rw [hd] at h
      simp only at h
      have hwv : Region.wanted o (yielded all.toArray a.tmps) = ((match a.tmps.getD d undef with | .bool b => some b | _ => none) == some g.2) := by
        rw [← yielded_eq E hn hd]; unfold Region.wanted; rw [hg]
      unfold StepOK
      rw [hwv]
      have hs := E.slots d
      cases hb : st.s d with
      | t ty b =>
        rw [hb] at h hs
        cases ty <;> first | exact h.elim | skip
        simp only at h
        have hv := VR_bool hs
        rw [hv]
        simp only
        cases hbg : b == g.2 with
        | true =>
          rw [hbg] at h
          have : b = g.2 := by simpa using hbg
          subst this
          rw [if_pos (by simp)]
          exact runE_ok E (hn o ho) hop h
        | false =>
          rw [hbg] at h
          have hne : (some b == some g.2) = false := by simpa using hbg
          rw [if_neg (by rw [hne]; simp)]
          exact ⟨G, _, E.put o.dst (hn o ho) (v := .undef) rfl, h⟩
      | undef =>
        rw [hb] at h hs
        simp only [AR] at hs
        rw [hs]
        rw [if_neg (by simp [undef])]
        exact ⟨G, _, E.put o.dst (hn o ho) (v := .undef) rfl, h⟩
      | _ => rw [hb] at h; exact h.elim
theorem StepOK.wpOp {ops : Array Oper} {i : Nat} {o : Oper} {K : Act → World → Prop} {Q : Exit → Act → World → Prop} (hi : ops[i]? = some o) (h : StepOK P ops o a w K Q) : wpOp P ops Q i K a w := by
  unfold Go.wpOp
  simp only [hi]
  unfold StepOK at h
  split
  · rename_i hw; simp only [hw, if_true] at h; exact .inl h
  · rename_i hw; simp only [hw] at h; exact h

/-! ### A region in its own order -/
theorem ops_ok {Γ : Ctx} (H : Home P Γ X F w0) {all : List Oper} (hn : ∀ o ∈ all, ∀ d, o.dst = some d → d < n) {ρ : Type} {K : St → M ρ} {r : ρ} {Q : Exit → Act → World → Prop}
    (hQ : ∀ G st a w, EnvR X F w0 n G st a w → K st r → Q .normal a w) : ∀ (rest : List Oper) (k : Nat) {G : Gh} {st : St} {a : Act} {w : World}, (∀ j, rest[j]? = all[k + j]?) → EnvR X F w0 n G st a w → evOps Γ false all K rest k st r → wpOps P all.toArray Q (List.range' k rest.length) a w
  | [], k, G, st, a, w, _, E, h => hQ _ _ _ _ E h
  | o :: rest, k, G, st, a, w, hj, E, h => by
    rw [evOps_cons] at h
    have h0 : all[k]? = some o := by simpa using (hj 0).symm
    have ho : o ∈ all := List.mem_of_getElem? h0
    have := (stepE_ok (Q := Q) H E hn ho h).wpOp (by simpa using h0)
    rw [List.length_cons, List.range'_succ, wpOps_cons]
    exact wpOp_mono (fun a w ⟨G', st', E', h'⟩ => ops_ok H hn hQ rest (k + 1) (fun j => by have := hj (j + 1); simpa [Nat.add_assoc, Nat.add_comm 1 j] using this) E' h') this
theorem region_ok {Γ : Ctx} (H : Home P Γ X F w0) {ops : Array Oper} {id : Nat} (hn : ∀ o ∈ ops.toList, ∀ d, o.dst = some d → d < n) {ρ : Type} {K : St → M ρ} {r : ρ} {Q : Exit → Act → World → Prop}
    (hQ : ∀ G st a w, EnvR X F w0 n G st a w → K st r → Q .normal a w) (E : EnvR X F w0 n G st a w) (h : evOps Γ false ops.toList K ops.toList 0 st r) : (Code.region id ops false).wp P Q a w := by
  refine wp_region ?_
  have := ops_ok H hn hQ ops.toList 0 (fun j => by simp) E h
  rw [List.range_eq_range']
  simpa using this
end Go.Proofs.Yteidggfjcanbjaa.E
