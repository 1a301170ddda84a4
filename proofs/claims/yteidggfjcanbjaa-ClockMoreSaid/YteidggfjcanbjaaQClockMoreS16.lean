/- Regions that draw their order: whatever order is drawn, the evaluator's own serves. -/
import Derived.Test.YteidggfjcanbjaaQClockMoreS15
namespace Go.Proofs.Yteidggfjcanbjaa.E
open Go Go.RowKit
set_option linter.unusedVariables false
set_option linter.unusedSimpArgs false

variable {P : Program} {X : Nat → Prop} {F : Root} {w0 : World} {n : Nat} {G : Gh} {st : St} {a : Act} {w : World} {o : Oper}

/-! ### What an operation that changes nothing leaves -/
def updO {α : Type} (f : Nat → α) (d : Option Nat) (v : α) : Nat → α := match d with
  | some d => upd f d v
  | none => f
abbrev U := AV × Option (Nat × MB)
def updM (m : Nat → MB) (b : Option (Nat × MB)) : Nat → MB := match b with
  | some b => upd m b.1 b.2
  | none => m
def appl (st : St) (dst : Option Nat) (u : U) : St := ⟨updO st.s dst u.1, updM st.m u.2⟩
theorem appl_put (st : St) (dst : Option Nat) (v : AV) : appl st dst (v, none) = st.put dst v := by cases dst <;> rfl
theorem appl_set (st : St) (dst : Option Nat) (d : Nat) (v : AV) (b : MB) : appl st dst (v, some (d, b)) = (st.put dst v).set d b := by cases dst <;> rfl
theorem upd_comm {α : Type} (f : Nat → α) {d e : Nat} (h : d ≠ e) (u v : α) : upd (upd f d u) e v = upd (upd f e v) d u := by
  funext i
  by_cases h1 : i = d
  · subst h1
    rw [upd_other _ _ h, upd_same, upd_same]
  · by_cases h2 : i = e
    · subst h2
      rw [upd_same, upd_other _ _ h1, upd_same]
    · rw [upd_other _ _ h2, upd_other _ _ h1, upd_other _ _ h1, upd_other _ _ h2]
theorem updO_comm {α : Type} (f : Nat → α) {d e : Option Nat} (h : ∀ x, d = some x → e ≠ some x) (u v : α) : updO (updO f d u) e v = updO (updO f e v) d u := by
  cases d <;> cases e <;> first | rfl | skip
  rename_i d e
  exact upd_comm f (fun he => h d rfl (by rw [he])) u v
theorem appl_comm (st : St) {d e : Option Nat} (h : ∀ x, d = some x → e ≠ some x) (u v : U) (hm : ∀ p q, u.2 = some p → v.2 = some q → p.1 ≠ q.1) : appl (appl st d u) e v = appl (appl st e v) d u := by
  unfold appl
  congr 1
  · exact updO_comm _ h _ _
  · obtain ⟨u1, u2⟩ := u
    obtain ⟨v1, v2⟩ := v
    cases u2 <;> cases v2 <;> first | rfl | exact upd_comm _ (hm _ _ rfl rfl) _ _
/-- The ways in which an operation may end. -/
def OutF (dst : Option Nat) (m : Nat → MB) (u : U) : Res → Prop
  | .put v => u = (v, none)
  | .ite p _ r => p ∧ OutF dst m u r
  | .call res tup f [] => ∃ r, f r ∧ u = (outAV tup res r, none)
  | .callOwn ty f => ∃ d r, dst = some d ∧ m d = .none ∧ f r ∧ u = (.row d, some (d, .own true ty r))
  | .alloc isP b => ∃ d, dst = some d ∧ m d = .none ∧ u = (match isP with | true => .ptr d 0 | false => .row d, some (d, b))
  | .upd d b => u = (.dead, some (d, b))
  | _ => False
def OutT (u : U) : Res → Prop
  | .put (.bp p _) => (p ∧ u = (.t .bool true, none)) ∨ (¬ p ∧ u = (.t .bool false, none))
  | .put (.t .bool b) => u = (.t .bool b, none)
  | _ => False
def Out (t : Bool) (dst : Option Nat) (m : Nat → MB) (u : U) (r : Res) : Prop := match t with
  | true => OutT u r
  | false => OutF dst m u r
theorem outF_run {ρ : Type} {dst : Option Nat} {K : St → M ρ} {r : ρ} : ∀ {res : Res}, runRes dst st K res.hush r ↔ ∃ u, OutF dst st.m u res.hush ∧ K (appl st dst u) r := by
  intro res
  induction res with
  | fail => exact ⟨fun h => h.elim, fun ⟨_, h, _⟩ => h.elim⟩
  | put v =>
    simp only [Res.hush, runRes, force_eq, OutF]
    exact ⟨fun h => ⟨_, rfl, by rw [appl_put]; exact h⟩, fun ⟨u, h1, h2⟩ => by subst h1; rwa [appl_put] at h2⟩
  | ite p d res ih =>
    simp only [Res.hush, runRes, OutF]
    by_cases hp : p
    · rw [if_pos hp]
      exact ih.trans ⟨fun ⟨u, h1, h2⟩ => ⟨u, ⟨hp, h1⟩, h2⟩, fun ⟨u, h1, h2⟩ => ⟨u, h1.2, h2⟩⟩
    · rw [if_neg hp]
      exact ⟨fun h => h.elim, fun ⟨u, h1, h2⟩ => absurd h1.1 hp⟩
  | call res tup m kill =>
    cases kill with
    | nil =>
      simp only [Res.hush, runRes, OutF]
      constructor
      · rintro ⟨y, hy, h⟩
        exact ⟨_, ⟨y, hy, rfl⟩, by rw [appl_put]; exact h⟩
      · rintro ⟨u, ⟨y, hy, rfl⟩, h⟩
        exact ⟨y, hy, by rwa [appl_put] at h⟩
    | cons k ks => exact ⟨fun h => h.elim, fun ⟨_, h, _⟩ => h.elim⟩
  | callOwn ty m =>
    simp only [Res.hush, runRes, OutF]
    constructor
    · intro h
      cases dst with
      | none => exact h.elim
      | some d =>
        simp only at h
        cases hm : st.m d <;> rw [hm] at h <;> simp only at h <;> first | (exact h.elim) | skip
        obtain ⟨y, hy, h⟩ := h
        exact ⟨_, ⟨d, y, rfl, hm, hy, rfl⟩, by rw [appl_set]; exact h⟩
    · rintro ⟨u, ⟨d, y, rfl, hm, hy, rfl⟩, h⟩
      rw [appl_set] at h
      simp only
      rw [hm]
      exact ⟨y, hy, h⟩
  | callRow ty res m d app f => exact ⟨fun h => h.elim, fun ⟨_, h, _⟩ => h.elim⟩
  | callBox ty res m d off l => exact ⟨fun h => h.elim, fun ⟨_, h, _⟩ => h.elim⟩
  | alloc isP b =>
    simp only [Res.hush, runRes, OutF]
    constructor
    · intro h
      cases dst with
      | none => exact h.elim
      | some d =>
        simp only at h
        cases hm : st.m d <;> rw [hm] at h <;> simp only at h <;> first | (exact h.elim) | skip
        rw [MBforce_eq] at h
        refine ⟨_, ⟨d, rfl, hm, rfl⟩, ?_⟩
        rw [appl_set]
        cases isP <;> exact h
    · rintro ⟨u, ⟨d, rfl, hm, rfl⟩, h⟩
      rw [appl_set] at h
      simp only
      rw [hm]
      simp only
      rw [MBforce_eq]
      cases isP <;> exact h
  | app base ty l kill => exact ⟨fun h => h.elim, fun ⟨_, h, _⟩ => h.elim⟩
  | upd d b => exact ⟨fun h => h.elim, fun ⟨_, h, _⟩ => h.elim⟩
theorem outT_run {ρ : Type} {dst : Option Nat} {K : St → M ρ} {r : ρ} {res : Res} : runTest dst st K res r ↔ ∃ u, OutT u res ∧ K (appl st dst u) r := by
  cases res with
  | put v =>
    cases v with
    | bp p d =>
      simp only [runTest, OutT]
      by_cases hp : p
      · rw [if_pos hp]
        exact ⟨fun h => ⟨_, .inl ⟨hp, rfl⟩, by rw [appl_put]; exact h⟩, fun ⟨u, h1, h2⟩ => by
          rcases h1 with ⟨_, rfl⟩ | ⟨h1, _⟩
          · rwa [appl_put] at h2
          · exact absurd hp h1⟩
      · rw [if_neg hp]
        exact ⟨fun h => ⟨_, .inr ⟨hp, rfl⟩, by rw [appl_put]; exact h⟩, fun ⟨u, h1, h2⟩ => by
          rcases h1 with ⟨h1, _⟩ | ⟨_, rfl⟩
          · exact absurd h1 hp
          · rwa [appl_put] at h2⟩
    | t ty b =>
      cases ty <;> first | (exact ⟨fun h => h.elim, fun ⟨_, h, _⟩ => h.elim⟩) | skip
      simp only [runTest, OutT]
      obtain ⟨b, rfl⟩ : ∃ b' : Bool, b' = b := ⟨b, rfl⟩
      cases b
      · rw [if_neg (by simp)]
        exact ⟨fun h => ⟨_, rfl, by rw [appl_put]; exact h⟩, fun ⟨u, h1, h2⟩ => by subst h1; rwa [appl_put] at h2⟩
      · rw [if_pos rfl]
        exact ⟨fun h => ⟨_, rfl, by rw [appl_put]; exact h⟩, fun ⟨u, h1, h2⟩ => by subst h1; rwa [appl_put] at h2⟩
    | _ => exact ⟨fun h => h.elim, fun ⟨_, h, _⟩ => h.elim⟩
  | _ => exact ⟨fun h => h.elim, fun ⟨_, h, _⟩ => h.elim⟩
def isStore (o : Oper) : Bool := match o.op with
  | .store _ _ _ => true
  | _ => false
def soft (o : Oper) : Bool := !loud o || isStore o
theorem isStore_loud {o : Oper} (h : isStore o = true) : loud o = true := by
  unfold isStore at h
  unfold loud
  split at h
  · rename_i ho; rw [ho]
  · cases h
theorem isExt_soft {o : Oper} (h : isExt o = true) : loud o = false := by
  unfold isExt at h
  unfold loud
  split at h
  · rename_i ho; rw [ho]
  · cases h
theorem tame_hush {o : Oper} (hl : loud o = false) (r : Res) : r.tame true o = r.hush := by unfold Res.tame; rw [hl]; rfl
theorem tame_store {o : Oper} (hl : isStore o = true) (r : Res) : r.tame true o = r := by unfold Res.tame; rw [isStore_loud hl]; rfl
theorem store_res {Γ : Ctx} {o : Oper} (hl : isStore o = true) (L : Look) : evOp Γ o L = .fail ∨ ∃ d b, evOp Γ o L = .upd d b := by
  unfold isStore at hl
  split at hl
  · rename_i T x y ho
    unfold evOp
    rw [ho]
    simp only
    repeat' split
    all_goals first
      | exact .inl rfl
      | exact .inr ⟨_, _, rfl⟩
  · cases hl
theorem out_run {ρ : Type} {Γ : Ctx} {o : Oper} (hl : soft o = true) (L : Look) {t : Bool} {dst : Option Nat} {K : St → M ρ} {r : ρ} : runE t dst st K ((evOp Γ o L).tame true o) r ↔ ∃ u, Out t dst st.m u ((evOp Γ o L).tame true o) ∧ K (appl st dst u) r := by
  cases hh : loud o with
  | false =>
    rw [tame_hush hh]
    cases t
    · exact outF_run
    · exact outT_run
  | true =>
    have hs : isStore o = true := by unfold soft at hl; rw [hh] at hl; simpa using hl
    rw [tame_store hs]
    rcases store_res (Γ := Γ) hs L with h | ⟨d, b, h⟩ <;> rw [h]
    · cases t <;> exact ⟨fun h => h.elim, fun ⟨_, h, _⟩ => h.elim⟩
    · cases t
      · simp only [runE, runRes, MBforce_eq, Out, OutF]
        exact ⟨fun h => ⟨_, rfl, by rw [appl_set]; exact h⟩, fun ⟨u, h1, h2⟩ => by subst h1; rwa [appl_set] at h2⟩
      · exact ⟨fun h => h.elim, fun ⟨_, h, _⟩ => h.elim⟩
def want (all : List Oper) (o : Oper) (s : Nat → AV) : Option Bool := match o.guard with
  | none => some true
  | some g => match nthDst all g.1 with
    | none => none
    | some d => match s d with
      | .t .bool b => some (b == g.2)
      | .undef => some false
      | _ => none
def Qu (Γ : Ctx) (all : List Oper) (t : Bool) (o : Oper) (st : St) (u : U) : Prop := match want all o st.s with
  | some true => Out t o.dst st.m u ((evOp Γ o (lookOf true o st.s st.m)).tame true o)
  | some false => u = (.undef, none)
  | none => False
theorem step_Qu {Γ : Ctx} {all : List Oper} {t : Bool} {o : Oper} (hl : soft o = true) {ρ : Type} {K : St → M ρ} {r : ρ} : stepE Γ true all t o st K r ↔ ∃ u, Qu Γ all t o st u ∧ K (appl st o.dst u) r := by
  unfold stepE Qu want
  cases hg : o.guard with
  | none => exact out_run hl _
  | some g =>
    simp only
    cases hd : nthDst all g.1 with
    | none => exact ⟨fun h => h.elim, fun ⟨_, h, _⟩ => h.elim⟩
    | some d =>
      simp only
      cases hs : st.s d with
      | t ty b =>
        cases ty <;> first | (exact ⟨fun h => h.elim, fun ⟨_, h, _⟩ => h.elim⟩) | skip
        simp only
        cases hb : b == g.2 with
        | true => exact out_run hl _
        | false => exact ⟨fun h => ⟨_, rfl, by rw [appl_put]; exact h⟩, fun ⟨u, h1, h2⟩ => by subst h1; rwa [appl_put] at h2⟩
      | undef => exact ⟨fun h => ⟨_, rfl, by rw [appl_put]; exact h⟩, fun ⟨u, h1, h2⟩ => by subst h1; rwa [appl_put] at h2⟩
      | _ => exact ⟨fun h => h.elim, fun ⟨_, h, _⟩ => h.elim⟩
/-- A new row or box is laid where none was. -/
theorem Qu_new {Γ : Ctx} {all : List Oper} {t : Bool} {o : Oper} (hl : loud o = false) {u : U} (h : Qu Γ all t o st u) {b : Nat × MB} (hb : u.2 = some b) : o.dst = some b.1 ∧ st.m b.1 = .none := by
  have key : ∀ res : Res, OutF o.dst st.m u res.hush → o.dst = some b.1 ∧ st.m b.1 = .none := by
    intro res
    induction res with
    | fail => exact fun h => h.elim
    | put v => intro h; simp only [Res.hush, OutF] at h; subst h; cases hb
    | ite p d r ih => exact fun h => ih h.2
    | call res tup m kill =>
      intro h
      cases kill with
      | nil => obtain ⟨y, _, rfl⟩ := h; cases hb
      | cons => exact h.elim
    | callOwn ty m => rintro ⟨d, r, h1, h2, _, rfl⟩; simp at hb; subst hb; exact ⟨h1, h2⟩
    | callRow ty res m d app f => exact fun h => h.elim
    | callBox ty res m d off l => exact fun h => h.elim
    | alloc isP b => rintro ⟨d, h1, h2, rfl⟩; simp at hb; subst hb; exact ⟨h1, h2⟩
    | app base ty l kill => exact fun h => h.elim
    | upd d b => exact fun h => h.elim
  unfold Qu at h
  rw [tame_hush hl] at h
  split at h
  · unfold Out at h
    split at h
    · unfold OutT at h
      split at h
      · rcases h with ⟨_, rfl⟩ | ⟨_, rfl⟩ <;> cases hb
      · subst h; cases hb
      · exact h.elim
    · exact key _ h
  · subst h; cases hb
  · exact h.elim

/-! ### Two operations that are apart -/
theorem AR_ref {own : Nat → Prop} {β : Nat → Value} {m : Nat → MB} {x : AV} {v : Value} (h : AR w own β m x v) {d : Nat} (hd : refOf x = some d) : m d ≠ .none := by
  intro hm
  cases x <;> simp [refOf] at hd <;> subst hd <;> simp only [AR, hm] at h
theorem at_upd {m : Nat → MB} {x : AV} {e : Nat} (h : refOf x ≠ some e) (b : MB) : x.at (upd m e b) = x.at m := by
  cases x <;> first | rfl | (simp only [AV.at]; rw [upd_other _ _ (fun h' => h (by rw [← h']; rfl))])
def Sup (X : Nat → Prop) (F : Root) (w0 : World) (n : Nat) (st : St) : Prop := ∃ G a w, EnvR X F w0 n G st a w
theorem memN_mem {n : Nat} : ∀ {l : List Nat}, memN n l = true → n ∈ l
  | [], h => by cases h
  | m :: r, h => by
    simp only [memN, Bool.or_eq_true] at h
    rcases h with h | h
    · exact List.mem_cons.2 (.inl (Nat.eq_of_beq_eq_true h))
    · exact List.mem_cons.2 (.inr (memN_mem h))
theorem look_appl (S : Sup X F w0 n st) {o : Oper} {d : Option Nat} {u : U} (hd : ∀ t, t ∈ tmpsOf o → d ≠ some t) (hu : ∀ b, u.2 = some b → d = some b.1 ∧ st.m b.1 = .none) :
    lookOf true o (appl st d u).s (appl st d u).m = lookOf true o st.s st.m := by
  obtain ⟨G, a, w, E⟩ := S
  have hs : restr o (appl st d u).s = restr o st.s := by
    funext t
    show (bif memN t (tmpsOf o) then updO st.s d u.1 t else .dead) = bif memN t (tmpsOf o) then st.s t else .dead
    cases hm : memN t (tmpsOf o)
    · rfl
    · have := hd t (memN_mem hm)
      cases d with
      | none => rfl
      | some e => simp only [updO, cond_true]; exact upd_other _ _ (fun h => this (by rw [h]))
  unfold lookOf
  simp only
  funext x
  unfold St.look
  rw [hs]
  show (St.ev ⟨restr o st.s, updM st.m u.2⟩ x).at (updM st.m u.2) = (St.ev ⟨restr o st.s, st.m⟩ x).at st.m
  have he : St.ev ⟨restr o st.s, updM st.m u.2⟩ x = St.ev ⟨restr o st.s, st.m⟩ x := by cases x <;> rfl
  rw [he]
  cases hb : u.2 with
  | none => rfl
  | some b =>
    obtain ⟨_, hme⟩ := hu b hb
    simp only [updM]
    refine at_upd (fun hr => ?_) b.2
    have hA : AR w (Own X G.β st.m) G.β st.m (St.ev ⟨restr o st.s, st.m⟩ x) (a.eval x) := by
      cases x with
      | tmp t => exact (narrow E o).slots t
      | const v => exact ofValue_AR v
      | global g => rfl
      | func f => trivial
    exact AR_ref hA hr hme
theorem mem_tmps {o : Oper} {t : Nat} (ops : Array Oper) (h : t ∈ tmpsOf o) : t ∈ o.looksAt ops := by
  unfold tmpsOf at h
  unfold Oper.looksAt
  refine List.mem_append.2 (.inl ?_)
  obtain ⟨x, hx, hx2⟩ := List.mem_filterMap.1 h
  refine List.mem_filterMap.2 ⟨x, hx, ?_⟩
  cases x <;> simp [tmpOf] at hx2 ⊢
  exact hx2
theorem guard_tmp {o : Oper} {all : List Oper} {g : Nat × Bool} (hg : o.guard = some g) {d : Nat} (hd : nthDst all g.1 = some d) : d ∈ o.looksAt all.toArray := by
  unfold Oper.looksAt
  refine List.mem_append.2 (.inr ?_)
  rw [hg, nthDst_eq] at *
  simp only [List.getElem?_toArray, hd]
  simp
/-- A part of an answer does not hang on memory. -/
theorem ext_look {Γ : Ctx} {o : Oper} (he : isExt o = true) {d : Option Nat} {u : U} (hd : ∀ t, t ∈ tmpsOf o → d ≠ some t) : evOp Γ o (lookOf true o (appl st d u).s (appl st d u).m) = evOp Γ o (lookOf true o st.s st.m) := by
  have hs : restr o (appl st d u).s = restr o st.s := by
    funext t
    show (bif memN t (tmpsOf o) then updO st.s d u.1 t else .dead) = bif memN t (tmpsOf o) then st.s t else .dead
    cases hm : memN t (tmpsOf o)
    · rfl
    · have := hd t (memN_mem hm)
      cases d with
      | none => rfl
      | some e => simp only [updO, cond_true]; exact upd_other _ _ (fun h => this (by rw [h]))
  unfold isExt at he
  split at he
  · rename_i x i ho
    unfold evOp
    rw [ho]
    simp only [lookOf, St.look]
    rw [hs]
    have hev : St.ev ⟨restr o st.s, (appl st d u).m⟩ x = St.ev ⟨restr o st.s, st.m⟩ x := by cases x <;> rfl
    rw [hev]
    generalize St.ev ⟨restr o st.s, st.m⟩ x = v
    cases v <;> first | rfl | skip
    all_goals
      simp only [AV.at]
      generalize (appl st d u).m _ = b1
      generalize st.m _ = b2
      cases b1 <;> cases b2 <;> rfl
  · cases he
theorem want_appl {all : List Oper} {o : Oper} {d : Option Nat} {u : U} (h1 : ∀ t, d = some t → t ∉ o.looksAt all.toArray) : want all o (appl st d u).s = want all o st.s := by
  unfold want
  cases hg : o.guard with
  | none => rfl
  | some g =>
    simp only
    cases hd : nthDst all g.1 with
    | none => rfl
    | some e =>
      simp only
      have : (appl st d u).s e = st.s e := by
        cases d with
        | none => rfl
        | some f => exact upd_other _ _ (fun he => h1 f rfl (he ▸ guard_tmp hg hd))
      rw [this]
theorem ext_out {Γ : Ctx} {o : Oper} (he : isExt o = true) (L : Look) : evOp Γ o L = .fail ∨ ∃ v, evOp Γ o L = .put v := by
  unfold isExt at he
  split at he
  · rename_i x i ho
    unfold evOp
    rw [ho]
    simp only
    repeat' split
    all_goals first
      | exact .inl rfl
      | exact .inr ⟨_, rfl⟩
  · cases he
theorem ext_Out {Γ : Ctx} {o : Oper} (he : isExt o = true) (L : Look) {t : Bool} {dst dst' : Option Nat} {m m' : Nat → MB} {v : U} : Out t dst m v ((evOp Γ o L).tame true o) ↔ Out t dst' m' v ((evOp Γ o L).tame true o) := by
  rw [tame_hush (isExt_soft he)]
  rcases ext_out (Γ := Γ) he L with h | ⟨x, h⟩ <;> rw [h] <;> cases t <;> exact Iff.rfl
theorem ext_none {Γ : Ctx} {all : List Oper} {t : Bool} {o : Oper} (he : isExt o = true) {u : U} (h : Qu Γ all t o st u) : u.2 = none := by
  unfold Qu at h
  rw [tame_hush (isExt_soft he)] at h
  split at h
  · rcases ext_out (Γ := Γ) he (lookOf true o st.s st.m) with h' | ⟨x, h'⟩ <;> rw [h'] at h <;> cases t
    · exact h.elim
    · exact h.elim
    · have h : u = (x, none) := h
      rw [h]
    · simp only [Out, Res.hush] at h
      unfold OutT at h
      split at h
      · rcases h with ⟨_, rfl⟩ | ⟨_, rfl⟩ <;> rfl
      · subst h; rfl
      · exact h.elim
  · subst h; rfl
  · exact h.elim
theorem Qu_ext {Γ : Ctx} {all : List Oper} {t : Bool} {o : Oper} (he : isExt o = true) {d : Option Nat} {u v : U} (h1 : ∀ t, d = some t → t ∉ o.looksAt all.toArray) : Qu Γ all t o (appl st d u) v ↔ Qu Γ all t o st v := by
  unfold Qu
  rw [want_appl h1, ext_look he (fun t ht hd => h1 t hd (mem_tmps _ ht))]
  split
  · exact ext_Out he _
  · exact Iff.rfl
  · exact Iff.rfl
theorem ofValue_ref (v : Value) : refOf (ofValue v) = none := by
  unfold ofValue
  split
  · split <;> rfl
  · split <;> rfl
/-- Operations see what they saw, where a store writes on nothing that they see. -/
theorem look_upd {o : Oper} {d : Option Nat} {v : U} (hd : ∀ t, t ∈ tmpsOf o → d ≠ some t) (hv : ∀ b, v.2 = some b → ∀ t ∈ tmpsOf o, refOf (st.s t) ≠ some b.1) : lookOf true o (appl st d v).s (appl st d v).m = lookOf true o st.s st.m := by
  have hs : restr o (appl st d v).s = restr o st.s := by
    funext t
    show (bif memN t (tmpsOf o) then updO st.s d v.1 t else .dead) = bif memN t (tmpsOf o) then st.s t else .dead
    cases hm : memN t (tmpsOf o)
    · rfl
    · have := hd t (memN_mem hm)
      cases d with
      | none => rfl
      | some e => simp only [updO, cond_true]; exact upd_other _ _ (fun h => this (by rw [h]))
  unfold lookOf
  simp only
  funext x
  unfold St.look
  rw [hs]
  show (St.ev ⟨restr o st.s, updM st.m v.2⟩ x).at (updM st.m v.2) = (St.ev ⟨restr o st.s, st.m⟩ x).at st.m
  have he : St.ev ⟨restr o st.s, updM st.m v.2⟩ x = St.ev ⟨restr o st.s, st.m⟩ x := by cases x <;> rfl
  rw [he]
  cases hb : v.2 with
  | none => rfl
  | some b =>
    refine at_upd (fun hr => ?_) b.2
    cases x with
    | tmp t =>
      have hr : refOf (bif memN t (tmpsOf o) then st.s t else .dead) = some b.1 := hr
      cases hm : memN t (tmpsOf o) with
      | true => rw [hm] at hr; exact hv b hb t (memN_mem hm) hr
      | false => rw [hm] at hr; cases hr
    | const w => have hr : refOf (ofValue w) = some b.1 := hr; rw [ofValue_ref] at hr; cases hr
    | global g => cases hr
    | func f => cases hr
theorem OutF_m {dst : Option Nat} {m m' : Nat → MB} (h : ∀ e, dst = some e → m e = .none → m' e = .none) {u : U} : ∀ {res : Res}, OutF dst m u res → OutF dst m' u res := by
  intro res
  induction res with
  | ite p d r ih => exact fun hh => ⟨hh.1, ih hh.2⟩
  | call res tup m kill => cases kill <;> exact id
  | callOwn ty f => exact fun ⟨d, r, a1, a2, a3⟩ => ⟨d, r, a1, h d a1 a2, a3⟩
  | alloc isP b => exact fun ⟨d, a1, a2, a3⟩ => ⟨d, a1, h d a1 a2, a3⟩
  | _ => exact id
/-- What a store writes on. -/
theorem store_target {Γ : Ctx} {all : List Oper} {t : Bool} {y : Oper} (hy : isStore y = true) {v : U} (h : Qu Γ all t y st v) {b : Nat × MB} (hb : v.2 = some b) : ∃ ta, storeAt y = some ta ∧ refOf (st.s ta) = some b.1 ∧ st.m b.1 ≠ .none := by
  unfold Qu at h
  rw [tame_store hy] at h
  split at h
  · unfold isStore at hy
    split at hy
    · rename_i T x z ho
      rcases store_res (Γ := Γ) (o := y) (by unfold isStore; rw [ho]) (lookOf true y st.s st.m) with he | ⟨d, c, he⟩
      · rw [he] at h; cases t <;> exact h.elim
      · have hv : v = (.dead, some (d, c)) := by
          rw [he] at h
          cases t
          · exact h
          · exact h.elim
        subst hv
        have hbd : (d, c) = b := by simpa using hb
        subst hbd
        unfold evOp at he
        rw [ho] at he
        simp only [lookOf] at he
        have key : ∀ q : AV × MB, q = St.look ⟨restr y st.s, st.m⟩ x → ((∃ off, q.1 = .ptr d off) ∧ ∃ l, q.2 = .box l) ∨ ((∃ i, q.1 = .elt d i) ∧ ∃ app ty l, q.2 = .own app ty l) → ∃ ta, storeAt y = some ta ∧ refOf (st.s ta) = some d ∧ st.m d ≠ .none := by
          intro q hq h
          have hx : ∀ e : AV, (e.at st.m) = q → (refOf e = some d ∧ st.m d ≠ .none) := by
            intro e he
            rw [← he] at h
            cases e <;> simp only [AV.at] at h
            all_goals first
              | (rcases h with ⟨⟨off, h1⟩, l, h2⟩ | ⟨⟨i, h1⟩, app, ty, l, h2⟩ <;> first
                  | (cases h1; done)
                  | (cases h1; exact ⟨rfl, by rw [h2]; simp⟩))
              | (split at h <;> rcases h with ⟨⟨off, h1⟩, l, h2⟩ | ⟨⟨i, h1⟩, app, ty, l, h2⟩ <;> cases h1)
          obtain ⟨h1, h2⟩ := hx _ hq.symm
          cases x with
          | tmp ta =>
            refine ⟨ta, by unfold storeAt; rw [ho], ?_, h2⟩
            have h1 : refOf (bif memN ta (tmpsOf y) then st.s ta else .dead) = some d := h1
            cases hm : memN ta (tmpsOf y) with
            | true => rw [hm] at h1; exact h1
            | false => rw [hm] at h1; cases h1
          | const w => have h1 : refOf (ofValue w) = some d := h1; rw [ofValue_ref] at h1; cases h1
          | global g => cases h1
          | func f => cases h1
        generalize hq : St.look ⟨restr y st.s, st.m⟩ x = q at he
        refine key q hq.symm ?_
        obtain ⟨q1, q2⟩ := q
        cases q1 <;> simp only at he <;> first | (cases he; done) | skip
        · cases q2 <;> simp only at he <;> first | (cases he; done) | skip
          split at he
          · split at he
            · cases he; exact .inl ⟨⟨_, rfl⟩, _, rfl⟩
            · cases he
          · cases he
        · cases q2 <;> simp only at he <;> first | (cases he; done) | skip
          split at he
          · cases he; exact .inr ⟨⟨_, rfl⟩, _, _, _, rfl⟩
          · cases he
    · cases hy
  · subst h; cases hb
  · exact h.elim
theorem Qu_move {Γ : Ctx} {all : List Oper} {t : Bool} {x : Oper} {d : Option Nat} {u v : U} (h1 : ∀ t, d = some t → t ∉ x.looksAt all.toArray) (hv : ∀ b, v.2 = some b → (∀ t ∈ tmpsOf x, refOf (st.s t) ≠ some b.1) ∧ st.m b.1 ≠ .none) (h : Qu Γ all t x st u) : Qu Γ all t x (appl st d v) u := by
  unfold Qu at h ⊢
  rw [want_appl h1, look_upd (fun t ht hd => h1 t hd (mem_tmps _ ht)) (fun b hb => (hv b hb).1)]
  split at h
  · rename_i hw
    cases t
    · refine OutF_m (fun e he hm => ?_) h
      show updM st.m v.2 e = .none
      cases hb : v.2 with
      | none => exact hm
      | some b => exact (upd_other _ _ (fun h' => (hv b hb).2 (by rw [← h']; exact hm))).trans hm
    · exact h
  · exact h
  · exact h
theorem Qu_appl {Γ : Ctx} {all : List Oper} (S : Sup X F w0 n st) {t : Bool} {o : Oper} {d : Option Nat} {u v : U} (h1 : ∀ t, d = some t → t ∉ o.looksAt all.toArray) (h2 : ∀ t, d = some t → o.dst ≠ some t)
    (hu : ∀ b, u.2 = some b → d = some b.1 ∧ st.m b.1 = .none) : Qu Γ all t o (appl st d u) v ↔ Qu Γ all t o st v := by
  have hw : want all o (appl st d u).s = want all o st.s := want_appl h1
  have hl := look_appl S (o := o) (d := d) (u := u) (fun t ht hd => h1 t hd (mem_tmps _ ht)) hu
  have hout : ∀ res : Res, Out t o.dst (appl st d u).m v res ↔ Out t o.dst st.m v res := by
    intro res
    unfold Out
    cases t
    · simp only
      have hm : ∀ e, o.dst = some e → (appl st d u).m e = st.m e := by
        intro e he
        show updM st.m u.2 e = st.m e
        cases hb : u.2 with
        | none => rfl
        | some b => exact upd_other _ _ (fun h => h2 b.1 (hu b hb).1 (by rw [he, h]))
      induction res with
      | ite p d r ih => exact and_congr Iff.rfl ih
      | call res tup m kill => cases kill <;> exact Iff.rfl
      | callOwn ty m =>
        simp only [OutF]
        exact ⟨fun ⟨e, r, a1, a2, a3⟩ => ⟨e, r, a1, by rw [← hm e a1]; exact a2, a3⟩, fun ⟨e, r, a1, a2, a3⟩ => ⟨e, r, a1, by rw [hm e a1]; exact a2, a3⟩⟩
      | alloc isP b =>
        simp only [OutF]
        exact ⟨fun ⟨e, a1, a2, a3⟩ => ⟨e, a1, by rw [← hm e a1]; exact a2, a3⟩, fun ⟨e, a1, a2, a3⟩ => ⟨e, a1, by rw [hm e a1]; exact a2, a3⟩⟩
      | _ => exact Iff.rfl
    · exact Iff.rfl
  unfold Qu
  rw [hw, hl]
  split
  · exact hout _
  · exact Iff.rfl
  · exact Iff.rfl
theorem wp_goes {o : Oper} {K : Act → World → Prop} (h : o.wp P a w K fun _ _ _ => False) : ∃ a' w', K a' w' := by
  unfold Oper.wp at h
  generalize (execOp a.eval o).run P w = r at h
  cases r with
  | ok nx w' =>
    cases nx <;> simp only [Oper.upon] at h
    case value v => exact ⟨_, _, h⟩
    case skip => exact ⟨_, _, h⟩
    case defer d => exact ⟨_, _, h⟩
    case enter f args =>
      obtain ⟨e, w'', fr, hR, _⟩ := h []
      cases e with
      | returned v => exact ⟨_, _, hR⟩
      | panicked c => exact hR.elim
      | outgrown => obtain ⟨_, _, hR⟩ := hR; exact hR.elim
    case row row args =>
      obtain ⟨v, w'', hR, _⟩ := h default []
      exact ⟨_, _, hR⟩
  | halt x w' => cases x <;> simp only [Oper.upon] at h
theorem Sup_step {Γ : Ctx} (H : Home P Γ X F w0) {all : List Oper} (hn : ∀ o ∈ all, ∀ d, o.dst = some d → d < n) (S : Sup X F w0 n st) {t : Bool} {o : Oper} (ho : o ∈ all) (hl : soft o = true) {u : U} (h : Qu Γ all t o st u) : Sup X F w0 n (appl st o.dst u) := by
  obtain ⟨G, a, w, E⟩ := S
  have h1 := (step_Qu (ρ := Unit) (K := fun st' _ => st' = appl st o.dst u) (r := ()) hl).2 ⟨u, h, rfl⟩
  have h2 := stepE_ok (Q := fun _ _ _ => False) H E hn ho h1
  unfold StepOK at h2
  split at h2
  · obtain ⟨a', w', G', st', E', rfl⟩ := wp_goes h2
    exact ⟨G', a', w', E'⟩
  · obtain ⟨G', st', E', rfl⟩ := h2
    exact ⟨G', _, _, E'⟩

/-! ### Every order -/
def pairB (ops : Array Oper) (x y : Oper) : Bool := x.apart ops y && ((!loud x && !loud y) || (isExt x && isStore y) || (!loud x && isStore y) || (isStore x && isExt y))
/-- A store that may come ahead writes on nothing that x sees. -/
def Sep (s : Nat → AV) (x y : Oper) : Prop := ∀ ta d, storeAt y = some ta → refOf (s ta) = some d → ∀ t ∈ tmpsOf x, refOf (s t) ≠ some d
theorem pair_soft {ops : Array Oper} {x y : Oper} (h : pairB ops x y = true) : soft x = true ∧ soft y = true := by
  simp only [pairB, Bool.and_eq_true, Bool.or_eq_true, Bool.not_eq_true'] at h
  unfold soft
  rcases h.2 with ((⟨h1, h2⟩ | ⟨h1, h2⟩) | ⟨h1, h2⟩) | ⟨h1, h2⟩
  · rw [h1, h2]; exact ⟨rfl, rfl⟩
  · rw [isExt_soft h1, h2]; simp
  · rw [h1, h2]; simp
  · rw [isExt_soft h2, h1]; simp
/-- Two operations of a pair: the one does not move the other, and their ends can be told in either order. -/
theorem pair_ok {Γ : Ctx} {all : List Oper} (S : Sup X F w0 n st) {x y : Oper} (h : pairB all.toArray x y = true) {t t' : Bool} {u v : U} (hsep : isExt x = false → Sep st.s x y) (hu : Qu Γ all t x st u) :
    (Qu Γ all t' y (appl st x.dst u) v ↔ Qu Γ all t' y st v) ∧ (Qu Γ all t' y st v → (Qu Γ all t x (appl st y.dst v) u ∧ appl (appl st x.dst u) y.dst v = appl (appl st y.dst v) x.dst u)) := by
  have h0 := h
  simp only [pairB, Bool.and_eq_true, Bool.or_eq_true, Bool.not_eq_true'] at h
  obtain ⟨p1, p2, p3⟩ := Oper.apart_spec h.1
  cases hext : isExt x with
  | true =>
    have hn := ext_none hext hu
    refine ⟨Qu_appl S p1 p2 (fun b hb => by rw [hn] at hb; cases hb), fun hv => ⟨(Qu_ext hext p3).2 hu, appl_comm st p2 u v fun p q hp hq e => ?_⟩⟩
    rw [hn] at hp; cases hp
  | false =>
  have hsep := hsep hext
  rcases h.2 with ((⟨h1, h2⟩ | ⟨h1, h2⟩) | ⟨h1, h2⟩) | ⟨h1, h2⟩
  · refine ⟨Qu_appl S p1 p2 (fun b hb => Qu_new h1 hu hb), fun hv => ⟨(Qu_appl S p3 (fun t ht he => p2 t he ht) (fun b hb => Qu_new h2 hv hb)).2 hu, appl_comm st p2 u v fun p q hp hq e => ?_⟩⟩
    have a1 := (Qu_new h1 hu hp).1
    have a2 := (Qu_new h2 hv hq).1
    exact p2 _ a1 (by rw [a2, e])
  · rw [hext] at h1; cases h1
  · refine ⟨Qu_appl S p1 p2 (fun b hb => Qu_new h1 hu hb), fun hv => ⟨Qu_move p3 (fun b hb => ?_) hu, appl_comm st p2 u v fun p q hp hq e => ?_⟩⟩
    · obtain ⟨ta, a1, a2, a3⟩ := store_target h2 hv hb
      exact ⟨hsep ta b.1 a1 a2, a3⟩
    · obtain ⟨ta, a1, a2, a3⟩ := store_target h2 hv hq
      exact a3 (by rw [← e]; exact (Qu_new h1 hu hp).2)
  · refine ⟨Qu_ext h2 p1, fun hv => ?_⟩
    have hn := ext_none h2 hv
    refine ⟨(Qu_appl S p3 (fun t ht he => p2 t he ht) (fun b hb => by rw [hn] at hb; cases hb)).2 hu, appl_comm st p2 u v fun p q hp hq e => ?_⟩
    rw [hn] at hq; cases hq
def tst (all : List Oper) (i : Nat) : Bool := isTest i (all.drop (i + 1))
def EvAny (Γ : Ctx) (X : Nat → Prop) (F : Root) (w0 : World) (n : Nat) (all : List Oper) (K : St → Prop) : Nat → Array Bool → St → Prop
  | 0, listed, st => Region.ready .any all.toArray listed = [] ∧ K st
  | fuel + 1, listed, st => (Region.ready .any all.toArray listed = [] → K st) ∧ ∀ i ∈ Region.ready .any all.toArray listed, ∀ o, all.toArray[i]? = some o →
      stepE Γ true all (tst all i) o st (fun st' (_ : Unit) => Sup X F w0 n st' → EvAny Γ X F w0 n all K fuel (listed.setIfInBounds i true) st') ()
theorem any_ok {Γ : Ctx} (H : Home P Γ X F w0) {all : List Oper} (hn : ∀ o ∈ all, ∀ d, o.dst = some d → d < n) {K : St → Prop} {Q : Exit → Act → World → Prop} (hQ : ∀ G st a w, EnvR X F w0 n G st a w → K st → Q .normal a w) :
    ∀ (fuel : Nat) (listed : Array Bool) {G : Gh} {st : St} {a : Act} {w : World}, EnvR X F w0 n G st a w → EvAny Γ X F w0 n all K fuel listed st → wpAny P .any all.toArray Q fuel listed a w
  | 0, _, _, _, _, _, E, h => ⟨h.1, hQ _ _ _ _ E h.2⟩
  | fuel + 1, listed, G, st, a, w, E, h => by
    refine ⟨fun h0 => hQ _ _ _ _ E (h.1 h0), fun i hi => ?_⟩
    obtain ⟨_, o, ho, _⟩ := mem_ready.1 hi
    have hs := stepE_ok (Q := Q) H E hn (by simpa using Array.mem_of_getElem? ho) (h.2 i hi o ho)
    exact wpOp_mono (fun a' w' ⟨G', st', E', h'⟩ => any_ok H hn hQ fuel _ E' (h' ⟨G', a', w', E'⟩)) (hs.wpOp ho)
theorem isStore_not_ext {o : Oper} (h : isStore o = true) : isExt o = false := by
  unfold isStore at h
  unfold isExt
  split at h
  · rename_i ho; rw [ho]
  · cases h
theorem storeAt_store {o : Oper} {a : Nat} (h : storeAt o = some a) : isStore o = true := by
  unfold storeAt at h
  unfold isStore
  split at h
  · rename_i ho; rw [ho]
  · cases h
theorem sep_of {ops : Array Oper} {s : Nat → AV} {x y : Oper} (h : pairB ops x y = true) (hs : loud x = false → isStore y = true → Sep s x y) : Sep s x y := by
  intro ta d hta hd
  have hy := storeAt_store hta
  simp only [pairB, Bool.and_eq_true, Bool.or_eq_true, Bool.not_eq_true'] at h
  rcases h.2 with ((⟨h1, _⟩ | ⟨h1, _⟩) | ⟨h1, _⟩) | ⟨_, h2⟩
  · exact hs h1 hy ta d hta hd
  · exact hs (isExt_soft h1) hy ta d hta hd
  · exact hs h1 hy ta d hta hd
  · rw [isStore_not_ext hy] at h2; cases h2
theorem alloc_out {Γ : Ctx} {all : List Oper} {t : Bool} {o : Oper} (ha : isAlloc o = true) {u : U} (h : Qu Γ all t o st u) : refOf u.1 = none ∨ ∃ d, refOf u.1 = some d ∧ st.m d = .none := by
  unfold isAlloc at ha
  split at ha
  · rename_i T ho
    have hl : loud o = false := by unfold loud; rw [ho]
    unfold Qu at h
    rw [tame_hush hl] at h
    split at h
    · unfold evOp at h
      rw [ho] at h
      simp only at h
      split at h
      · cases t
        · obtain ⟨d, h1, h2, rfl⟩ := h
          exact .inr ⟨d, rfl, h2⟩
        · exact h.elim
      · cases t <;> exact h.elim
    · subst h; exact .inl rfl
    · exact h.elim
  · cases ha
theorem sep_keep {Γ : Ctx} {all : List Oper} (S : Sup X F w0 n st) {t : Bool} {x y o : Oper} {v : U} (h3 : ∀ d, o.dst = some d → d ∉ x.looksAt all.toArray) (hv : Qu Γ all t o st v) (hal : ∀ ta, storeAt y = some ta → o.dst = some ta → isAlloc o = true) (h : Sep st.s x y) : Sep (appl st o.dst v).s x y := by
  intro ta d hta hd t' ht'
  have hs : (appl st o.dst v).s t' = st.s t' := by
    show updO st.s o.dst v.1 t' = st.s t'
    cases hod : o.dst with
    | none => rfl
    | some e => exact upd_other _ _ (fun he => h3 e hod (he ▸ mem_tmps _ ht'))
  rw [hs]
  by_cases hod : o.dst = some ta
  · have ha := hal ta hta hod
    have hd : refOf v.1 = some d := by
      have : (appl st o.dst v).s ta = v.1 := by
        show updO st.s o.dst v.1 ta = v.1
        rw [hod]; exact upd_same _ _ _
      rw [this] at hd; exact hd
    intro hr
    rcases alloc_out ha hv with h1 | ⟨e, h1, h2⟩
    · rw [h1] at hd; cases hd
    · rw [h1] at hd
      obtain rfl := Option.some.inj hd
      obtain ⟨G, a, w, E⟩ := S
      exact AR_ref (E.slots t') hr h2
  · have : (appl st o.dst v).s ta = st.s ta := by
      show updO st.s o.dst v.1 ta = st.s ta
      cases hod' : o.dst with
      | none => rfl
      | some e => exact upd_other _ _ (fun he => hod (by rw [hod', he]))
    rw [this] at hd
    exact h ta d hta hd t' ht'
theorem noRef_spec {s : Nat → AV} {d : Nat} : ∀ {l : List Nat}, noRef s d l = true → ∀ t ∈ l, refOf (s t) ≠ some d
  | [], _, t, ht => by cases ht
  | q :: r, h, t, ht => by
    simp only [noRef, Bool.and_eq_true] at h
    rcases List.mem_cons.1 ht with rfl | ht
    · intro hr
      have h1 := h.1
      rw [hr] at h1
      simp at h1
    · exact noRef_spec h.2 t ht
theorem onlyAlloc_spec {a : Nat} : ∀ {l : List Oper}, onlyAlloc a l = true → ∀ o ∈ l, o.dst = some a → isAlloc o = true
  | [], _, o, ho, _ => by cases ho
  | q :: r, h, o, ho, hd => by
    simp only [onlyAlloc, Bool.and_eq_true] at h
    rcases List.mem_cons.1 ho with rfl | ho
    · have h1 := h.1
      rw [hd] at h1
      simpa using h1
    · exact onlyAlloc_spec h.2 o ho hd
theorem sepAll_spec {s : Nat → AV} {k : Nat} {p : Oper} {rest : List Oper} : ∀ {l : List Oper}, sepAll s k p rest l = true → ∀ j ∈ l, (∀ e ∈ j.after, Region.binds .any e = true → e.on ≠ k) → Sep s p j ∧ ∀ ta, storeAt j = some ta → onlyAlloc ta rest = true
  | [], _, j, hj, _ => by cases hj
  | q :: r, h, j, hj, hno => by
    simp only [sepAll, Bool.and_eq_true] at h
    rcases List.mem_cons.1 hj with rfl | hj
    · have h1 := h.1
      have hb : boundTo k j = false := by
        cases hbb : boundTo k j with
        | false => rfl
        | true =>
          unfold boundTo at hbb
          obtain ⟨e, he, hb⟩ := Array.any_eq_true'.1 hbb
          simp only [Bool.and_eq_true, beq_iff_eq] at hb
          exact absurd hb.2 (hno e he hb.1)
      refine ⟨fun ta d hta hd => ?_, fun ta hta => ?_⟩
      · rw [hta] at h1
        simp only [hb, Bool.false_or, Bool.and_eq_true] at h1
        have h2 := h1.1
        rw [hd] at h2
        exact noRef_spec h2
      · rw [hta] at h1
        simp only [hb, Bool.false_or, Bool.and_eq_true] at h1
        exact h1.2
    · exact sepAll_spec h.2 j hj hno
theorem ev_first {Γ : Ctx} (H : Home P Γ X F w0) {all : List Oper} (hn : ∀ o ∈ all, ∀ d, o.dst = some d → d < n) {K : St → Prop} {i : Nat} {oi : Oper} (hi : all.toArray[i]? = some oi) (hli : soft oi = true) {u : U} :
    ∀ (fuel : Nat) (listed : Array Bool) (st : St), Sup X F w0 n st →
      (∀ j oj, all.toArray[j]? = some oj → j ≠ i → listed.getD j true = false → (∀ e ∈ oj.after, Region.binds .any e = true → e.on ≠ i) → pairB all.toArray oi oj = true ∧ (loud oi = false → isExt oi = false → isStore oj = true → Sep st.s oi oj ∧ ∀ ta, storeAt oj = some ta → ∀ k ok, all.toArray[k]? = some ok → k ≠ i → listed.getD k true = false → ok.dst = some ta → isAlloc ok = true)) →
      i ∈ Region.ready .any all.toArray listed → Qu Γ all (tst all i) oi st u →
      EvAny Γ X F w0 n all K fuel (listed.setIfInBounds i true) (appl st oi.dst u) → EvAny Γ X F w0 n all K (fuel + 1) listed st := by
  intro fuel
  induction fuel with
  | zero =>
    intro listed st S _ hr hy h
    refine ⟨fun h0 => (by rw [h0] at hr; cases hr), fun j hj oj hoj => ?_⟩
    by_cases hji : j = i
    · subst hji
      obtain rfl : oi = oj := by rw [hi] at hoj; simpa using hoj
      exact (step_Qu hli).2 ⟨u, hy, fun _ => h⟩
    · have := ready_mono hj hji
      rw [h.1] at this
      cases this
  | succ fuel ih =>
    intro listed st S hfree hr hy h
    refine ⟨fun h0 => (by rw [h0] at hr; cases hr), fun j hj oj hoj => ?_⟩
    by_cases hji : j = i
    · subst hji
      obtain rfl : oi = oj := by rw [hi] at hoj; simpa using hoj
      exact (step_Qu hli).2 ⟨u, hy, fun _ => h⟩
    · have h1 := h.2 j (ready_mono hj hji) oj hoj
      obtain ⟨hjun, oj', hoj', hall⟩ := mem_ready.1 hj
      obtain rfl : oj = oj' := by rw [hoj] at hoj'; simpa using hoj'
      have hnot : ∀ e ∈ oj.after, Region.binds .any e = true → e.on ≠ i := fun e he hb heq => by
        have h1 := hall e he hb
        have h0 := (mem_ready.1 hr).1
        rw [heq] at h1
        rcases Nat.lt_or_ge i listed.size with h' | h'
        · simp [h'] at h0 h1; rw [h0] at h1; cases h1
        · simp [Array.getElem?_eq_none h'] at h1
      obtain ⟨hp, hsp⟩ := hfree j oj hoj hji hjun hnot
      have hlj := (pair_soft hp).2
      have hsep : isExt oi = false → Sep st.s oi oj := fun he => sep_of hp fun h1 h2 => (hsp h1 he h2).1
      obtain ⟨v, hv, hK⟩ := (step_Qu hlj).1 h1
      obtain ⟨q1, q2⟩ := pair_ok (t' := tst all j) (v := v) S hp hsep hy
      have hv' : Qu Γ all (tst all j) oj st v := q1.1 hv
      obtain ⟨hy', hcomm⟩ := q2 hv'
      have hmi : oi ∈ all := by simpa using Array.mem_of_getElem? hi
      refine (step_Qu hlj).2 ⟨v, hv', fun S' => ih (listed.setIfInBounds j true) _ S' (fun k ok hk hki hun hno => ?_) (ready_mono hr (Ne.symm hji)) hy' ?_⟩
      · have hun' : ∀ k, (listed.setIfInBounds j true).getD k true = false → listed.getD k true = false := by
          intro k hk
          by_cases hjk : j = k
          · subst hjk; exact hjun
          · rw [getD_set_ne true hjk] at hk; exact hk
        obtain ⟨a1, a2⟩ := hfree k ok hk hki (hun' k hun) hno
        refine ⟨a1, fun b1 b0 b2 => ?_⟩
        obtain ⟨c1, c2⟩ := a2 b1 b0 b2
        refine ⟨sep_keep S (Oper.apart_spec (by simp only [pairB, Bool.and_eq_true] at hp; exact hp.1)).2.2 hv' (fun ta hta hd => c2 ta hta j oj hoj hji hjun hd) c1, fun ta hta k' ok' h1 h2 h3 => c2 ta hta k' ok' h1 h2 (hun' k' h3)⟩
      · rw [Array.setIfInBounds_comm _ _ hji, ← hcomm]
        refine hK ?_
        rw [hcomm]
        exact Sup_step H hn S' hmi hli hy'
/-- May it be taken first? -/
def freeL (ops : Array Oper) (listed : Array Bool) (i : Nat) : Bool :=
  match ops[i]? with
  | none => false
  | some oi => (List.range ops.size).all fun j => j == i || listed.getD j true || match ops[j]? with
      | some oj => oj.after.any (fun e => Region.binds .any e && e.on == i) || pairB ops oi oj
      | none => true
theorem freeL_spec {ops : Array Oper} {i : Nat} {oi : Oper} {listed : Array Bool} (hi : ops[i]? = some oi) (h : freeL ops listed i = true) (j : Nat) (oj : Oper)
    (hj : ops[j]? = some oj) (hne : j ≠ i) (hun : listed.getD j true = false) (hno : ∀ e ∈ oj.after, Region.binds .any e = true → e.on ≠ i) : pairB ops oi oj = true := by
  simp only [freeL, hi, List.all_eq_true, List.mem_range] at h
  have h1 := h j (Array.getElem?_eq_some_iff.1 hj).1
  simp only [hj, Bool.or_eq_true, beq_iff_eq, hne, false_or, hun, Bool.false_eq_true] at h1
  rcases h1 with h1 | h1
  · obtain ⟨e, he, hb⟩ := Array.any_eq_true'.1 h1
    simp only [Bool.and_eq_true, beq_iff_eq] at hb
    exact absurd hb.2 (hno e he hb.1)
  · exact h1
def lexL (ops : Array Oper) : Nat → Nat → Array Bool → Bool
  | 0, _, listed => (Region.ready .any ops listed).isEmpty
  | fuel + 1, k, listed => (Region.ready .any ops listed).contains k && freeL ops listed k && lexL ops fuel (k + 1) (listed.setIfInBounds k true)
theorem stepE_mono {ρ : Type} {Γ : Ctx} {dr : Bool} {all : List Oper} {t : Bool} {o : Oper} {K : St → M ρ} {K' : St → M Unit} {r : ρ} (h : ∀ st, K st r → K' st ()) (hh : stepE Γ dr all t o st K r) : stepE Γ dr all t o st K' () := by
  have hres : ∀ res : Res, runRes o.dst st K res r → runRes o.dst st K' res () := by
    intro res
    induction res with
    | fail => exact id
    | put v => simp only [runRes, force_eq]; exact h _
    | ite p d res ih =>
      simp only [runRes]
      by_cases hp : p
      · rw [if_pos hp, if_pos hp]; exact ih
      · rw [if_neg hp]; exact fun h => h.elim
    | call res tup m kill => simp only [runRes]; exact fun ⟨y, hy, hk⟩ => ⟨y, hy, h _ hk⟩
    | callOwn ty m =>
      simp only [runRes]
      intro h1
      cases hd : o.dst with
      | none => rw [hd] at h1; exact h1.elim
      | some d =>
        rw [hd] at h1
        simp only at h1 ⊢
        cases hm : st.m d <;> rw [hm] at h1 <;> first | exact h1.elim | skip
        obtain ⟨y, hy, hk⟩ := h1
        exact ⟨y, hy, h _ hk⟩
    | callRow ty res m d app f => simp only [runRes]; exact fun ⟨y, hy, hk⟩ => ⟨y, hy, h _ hk⟩
    | callBox ty res m d off l => simp only [runRes, forceL_eq]; exact fun ⟨y, hy, hk⟩ => ⟨y, hy, by simpa only [forceL_eq] using h _ hk⟩
    | alloc isP b =>
      simp only [runRes]
      intro h1
      cases hd : o.dst with
      | none => rw [hd] at h1; exact h1.elim
      | some d =>
        rw [hd] at h1
        simp only at h1 ⊢
        cases hm : st.m d <;> rw [hm] at h1 <;> first | exact h1.elim | skip
        simp only at h1 ⊢
        rw [MBforce_eq] at h1 ⊢
        cases isP <;> exact h _ h1
    | app base ty l kill =>
      simp only [runRes]
      intro h1
      cases hd : o.dst with
      | none => rw [hd] at h1; exact h1.elim
      | some d =>
        rw [hd] at h1
        simp only at h1 ⊢
        cases hm : st.m d <;> rw [hm] at h1 <;> first | exact h1.elim | skip
        exact h _ h1
    | upd d b => simp only [runRes, MBforce_eq]; exact h _
  have htest : ∀ res : Res, runTest o.dst st K res r → runTest o.dst st K' res () := by
    intro res h1
    obtain ⟨u, hu, hk⟩ := outT_run.1 h1
    exact outT_run.2 ⟨u, hu, h _ hk⟩
  have hrun : ∀ res : Res, runE t o.dst st K res r → runE t o.dst st K' res () := by
    intro res
    cases t
    · exact hres res
    · exact htest res
  unfold stepE at hh ⊢
  cases hg : o.guard with
  | none => rw [hg] at hh; exact hrun _ hh
  | some g =>
    rw [hg] at hh
    simp only at hh ⊢
    cases hd : nthDst all g.1 with
    | none => rw [hd] at hh; exact hh.elim
    | some d =>
      rw [hd] at hh
      simp only at hh ⊢
      cases hs : st.s d with
      | t ty b =>
        rw [hs] at hh
        cases ty <;> first | exact hh.elim | skip
        simp only at hh ⊢
        cases hb : b == g.2 with
        | true => rw [hb] at hh; exact hrun _ hh
        | false => rw [hb] at hh; exact h _ hh
      | undef => rw [hs] at hh; exact h _ hh
      | _ => rw [hs] at hh; exact hh.elim
theorem ev_lex {Γ : Ctx} (H : Home P Γ X F w0) {all : List Oper} (hn : ∀ o ∈ all, ∀ d, o.dst = some d → d < n) {ρ : Type} {K : St → M ρ} {r : ρ} :
    ∀ (rest : List Oper) (k : Nat) (listed : Array Bool) (st : St), rest = all.drop k → (∀ j, listed.getD j true = false → k ≤ j) → Sup X F w0 n st → lexL all.toArray rest.length k listed = true → evOps Γ true all K rest k st r →
      EvAny Γ X F w0 n all (fun st => K st r) rest.length listed st
  | [], k, listed, st, _, _, _, hB, h => ⟨by simpa [lexL] using hB, h⟩
  | o :: rest, k, listed, st, hk, hlst, S, hB, h => by
    have h0 : all.toArray[k]? = some o := by
      have : all[k]? = (all.drop k)[0]? := by simp
      rw [List.getElem?_toArray, this, ← hk]; rfl
    have hrest : rest = all.drop (k + 1) := by
      have := congrArg List.tail hk
      simpa using this
    have ho : o ∈ all := by simpa using Array.mem_of_getElem? h0
    simp only [List.length_cons, lexL, Bool.and_eq_true] at hB
    obtain ⟨⟨hr, hf⟩, hB'⟩ := hB
    have hr : k ∈ Region.ready .any all.toArray listed := by simpa using hr
    have hsp := freeL_spec h0 hf
    rw [evOps_cons] at h
    have ht : isTest k rest = tst all k := by unfold tst; rw [hrest]
    rw [ht] at h
    have hlst' : ∀ j, (listed.setIfInBounds k true).getD j true = false → k + 1 ≤ j := by
      intro j hj
      by_cases hjk : k = j
      · subst hjk
        exfalso
        rcases Nat.lt_or_ge k listed.size with h' | h'
        · simp [Array.getD_eq_getD_getElem?, h'] at hj
        · simp [Array.getD_eq_getD_getElem?, h'] at hj
      · rw [getD_set_ne true hjk] at hj
        have := hlst j hj
        omega
    have hchk : (true && !loud o && !(isExt o || sepAll st.s k o rest rest)) = false := by
      cases hc : (true && !loud o && !(isExt o || sepAll st.s k o rest rest)) with
      | false => rfl
      | true => rw [hc] at h; exact h.elim
    rw [hchk] at h
    simp only at h
    have hmem : ∀ j oj, all.toArray[j]? = some oj → j ≠ k → listed.getD j true = false → oj ∈ rest := by
      intro j oj hj hne hun
      have h1 := hlst j hun
      rw [hrest]
      rw [List.getElem?_toArray] at hj
      have : (all.drop (k + 1))[j - (k + 1)]? = some oj := by rw [List.getElem?_drop, show k + 1 + (j - (k + 1)) = j by omega]; exact hj
      exact List.mem_of_getElem? this
    cases hl : soft o with
    | true =>
      obtain ⟨u, hu, hK⟩ := (step_Qu hl).1 h
      exact ev_first H hn h0 hl rest.length listed st S (fun j oj a1 a2 a3 a4 => ⟨hsp j oj a1 a2 a3 a4, fun b1 b0 b2 => by
          have hall : sepAll st.s k o rest rest = true := by rw [b1, b0] at hchk; simpa using hchk
          obtain ⟨c1, c2⟩ := sepAll_spec hall oj (hmem j oj a1 a2 a3) a4
          exact ⟨c1, fun ta hta k' ok' d1 d2 d3 d4 => onlyAlloc_spec (c2 ta hta) ok' (hmem k' ok' d1 d2 d3) d4⟩⟩) hr hu
        (ev_lex H hn rest (k + 1) _ _ hrest hlst' (Sup_step H hn S ho hl hu) hB' hK)
    | false =>
      refine ⟨fun h1 => (by rw [h1] at hr; cases hr), fun j hj oj hoj => ?_⟩
      have hjk : j = k := by
        apply Classical.byContradiction
        intro hjk
        obtain ⟨hjun, oj', hoj', hall⟩ := mem_ready.1 hj
        obtain rfl : oj = oj' := by rw [hoj] at hoj'; simpa using hoj'
        have hnot : ∀ e ∈ oj.after, Region.binds .any e = true → e.on ≠ k := fun e he hb heq => by
          have h1 := hall e he hb
          have h0 := (mem_ready.1 hr).1
          rw [heq] at h1
          rcases Nat.lt_or_ge k listed.size with h' | h'
          · simp [h'] at h0 h1; rw [h0] at h1; cases h1
          · simp [Array.getElem?_eq_none h'] at h1
        have := (pair_soft (hsp j oj hoj hjk hjun hnot)).1
        rw [hl] at this; cases this
      subst hjk
      obtain rfl : o = oj := by rw [h0] at hoj; simpa using hoj
      exact stepE_mono (fun st' hK S' => ev_lex H hn rest (j + 1) _ _ hrest hlst' S' hB' hK) h
theorem draw_ok {Γ : Ctx} (H : Home P Γ X F w0) (hm : P.follows .mixedOrders = true) {ops : Array Oper} {id : Nat} (hn : ∀ o ∈ ops.toList, ∀ d, o.dst = some d → d < n) (hB : lexL ops ops.size 0 (Array.replicate ops.size false) = true)
    {ρ : Type} {K : St → M ρ} {r : ρ} {Q : Exit → Act → World → Prop} (hQ : ∀ G st a w, EnvR X F w0 n G st a w → K st r → Q .normal a w) (E : EnvR X F w0 n G st a w) (h : evOps Γ true ops.toList K ops.toList 0 st r) : (Code.region id ops true).wp P Q a w := by
  refine wp_region_any hm ?_
  have E' : EnvR X F w0 n G st a { w with drawn := w.drawn + 1 } := (E.grows (Grows.drew w)).1
  have := any_ok H hn (Q := Q) (K := fun st => K st r) hQ ops.toList.length (Array.replicate ops.size false) E' (ev_lex H hn ops.toList 0 _ st rfl (fun _ _ => Nat.zero_le _) ⟨G, a, w, E⟩ (by simpa using hB) h)
  simpa using this
end Go.Proofs.Yteidggfjcanbjaa.E
