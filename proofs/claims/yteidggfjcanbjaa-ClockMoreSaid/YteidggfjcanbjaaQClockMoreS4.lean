/- Ways of a state: rows and boxes that are new, that change, that are written no more. -/
import Derived.Test.YteidggfjcanbjaaQClockMoreS3
namespace Go.Proofs.Yteidggfjcanbjaa.E
open Go Go.RowKit
set_option linter.unusedVariables false
set_option linter.unusedSimpArgs false

variable {P : Program} {X : Nat → Prop} {F : Root} {w0 : World} {n : Nat} {G : Gh} {st : St} {a : Act} {w : World}

structure Grows (w w' : World) : Prop where
  size : w.heap.size ≤ w'.heap.size
  os : w'.os = w.os
  tape : w'.tape = w.tape
  output : w'.output = w.output
  heap : ∀ g, g < w.heap.size → w'.heap[g]? = w.heap[g]?
theorem Grows.refl (w : World) : Grows w w := ⟨Nat.le_refl _, rfl, rfl, rfl, fun _ _ => rfl⟩
theorem Grows.trans {a b c : World} (h : Grows a b) (k : Grows b c) : Grows a c :=
  ⟨Nat.le_trans h.size k.size, k.os.trans h.os, k.tape.trans h.tape, k.output.trans h.output, fun g hg => (k.heap g (Nat.lt_of_lt_of_le hg h.size)).trans (h.heap g hg)⟩
theorem Grows.alloc (w : World) (o : Obj) : Grows w (w.alloc o) := ⟨by simp, rfl, rfl, rfl, fun g hg => heap_alloc_old w o g hg⟩
theorem Grows.drew (w : World) : Grows w w.drew := ⟨Nat.le_refl _, rfl, rfl, rfl, fun _ _ => rfl⟩
/-- The same but for one block. -/
structure But (g : Nat) (w w' : World) : Prop where
  size : w.heap.size ≤ w'.heap.size
  os : w'.os = w.os
  tape : w'.tape = w.tape
  output : w'.output = w.output
  heap : ∀ k, k < w.heap.size → k ≠ g → w'.heap[k]? = w.heap[k]?

theorem EnvR.grows (E : EnvR X F w0 n G st a w) {w' : World} (h : Grows w w') : EnvR X F w0 n G st a w' ∧ Agree w w' (Own X G.β st.m) (Own X G.β st.m) :=
  E.grow w' h.size h.os h.tape h.output h.heap
theorem EnvR.st_eta (E : EnvR X F w0 n G ⟨st.s, st.m⟩ a w) : EnvR X F w0 n G st a w := E

theorem put_set (st : St) (dst : Option Nat) (d : Nat) (v : AV) (b : MB) : (st.put dst v).set d b = (⟨st.s, upd st.m d b⟩ : St).put dst v := by cases st; cases dst <;> rfl
theorem set_eq (st : St) (d : Nat) (b : MB) : st.set d b = ⟨st.s, upd st.m d b⟩ := by cases st; rfl
theorem put_kill (st : St) (dst : Option Nat) (v : AV) : ∀ ds : List Nat, (st.put dst v).kill ds = (st.kill ds).put dst v
  | [] => rfl
  | d :: ds => by
    simp only [St.kill]
    rw [put_kill st dst v ds, put_set, St.put_m, set_eq]
/-- A row in memory that is nobody's yet. -/
def NewRow (w w' : World) (own : Nat → Prop) (ty : Ty) (l : List ty.D) (v : Value) : Prop :=
  (v = .slice none 0 0 ∧ l = []) ∨ ∃ (g : Nat) (e : TypeId) (cap : Nat) (css : List (List Value)) (post : List Value), v = .slice (some ⟨g, 0, none⟩) (List.length l) cap ∧ w.heap.size ≤ g ∧
    w'.heap[g]? = some (.cells (css.flatten ++ post).toArray e (0, 0)) ∧ All2 (R w' (fun b => own b ∨ b = g) ty) l css ∧ List.length l ≤ cap ∧ css.flatten.length + post.length = cap * ty.n ∧ cap ≤ maxLen
theorem Own_upd_new {β : Nat → Value} {m : Nat → MB} {d : Nat} {v : Value} {b : MB} (hd : dead (m d)) {g : Nat} (h : Own X (upd β d v) (upd m d b) g) :
    Own X β m g ∨ blk (upd β d v) (upd m d b) d = some g := by
  rcases h with h | ⟨e, h⟩
  · exact .inl (.inl h)
  · by_cases he : e = d
    · subst he; exact .inr h
    · refine .inl (.inr ⟨e, ?_⟩)
      unfold blk at h ⊢
      rwa [upd_other _ _ he, upd_other _ _ he] at h
theorem blk_row {β : Nat → Value} {m : Nat → MB} {d : Nat} {app : Bool} {ty : Ty} {l : List ty.D} (hm : m d = .own app ty l) : blk β m d = (headOf (β d)).map (·.block) := by unfold blk; rw [hm]
theorem blk_box {β : Nat → Value} {m : Nat → MB} {d : Nat} {l : List AV} (hm : m d = .box l) : blk β m d = (headOf (β d)).map (·.block) := by unfold blk; rw [hm]
theorem EnvR.newRow (E : EnvR X F w0 n G st a w) {w' : World} (hg : Grows w w') {d : Nat} (hd : d < n) (hm : st.m d = .none) {ty : Ty} {l : List ty.D} {v : Value}
    (h : NewRow w w' (Own X G.β st.m) ty l v) : ∃ G', EnvR X F w0 n G' ((st.put (some d) (.row d)).set d (.own true ty l)) (a.put (some d) v) w' := by
  have hdead : dead (st.m d) := by rw [hm]; trivial
  have hmd : upd st.m d (.own true ty l) d = .own true ty l := upd_same _ _ _
  have hβd : upd G.β d v d = v := upd_same _ _ _
  obtain ⟨E', _, _⟩ := E.stepC (fun e => e = d) ⟨upd G.β d v, upd G.π d ([], [])⟩ (upd st.m d (.own true ty l)) w'
    (fun e he => ⟨upd_other _ _ he, upd_other _ _ he, upd_other _ _ he⟩)
    (fun e he => by
      by_cases h : e = d
      · subst h; exact absurd hdead he
      · exact upd_other _ _ h)
    (fun e => by
      by_cases h : e = d
      · subst h; rw [hm]; trivial
      · rw [upd_other _ _ h]; exact Later.refl _)
    hg.size hg.os hg.tape hg.output (fun g hg' _ => hg.heap g hg')
    (fun e g he hb => by
      subst he
      have hb : (headOf (upd G.β e v e)).map (·.block) = some g := by rw [← blk_row (β := upd G.β e v) hmd]; exact hb
      rw [hβd] at hb
      rcases h with ⟨rfl, _⟩ | ⟨g', _, _, _, _, rfl, hge, _⟩
      · simp [headOf] at hb
      · simp [headOf] at hb; subst hb; exact .inr hge)
    (fun e e' g he he' _ _ => he.trans he'.symm)
    (fun e he hr => by subst he; rw [hmd] at hr; cases hr)
    (fun e he A hAR => by
      subst he
      unfold MR
      rw [hmd]
      simp only
      rw [hβd, upd_same]
      rcases h with ⟨hv, hl⟩ | ⟨g, e', cap, css, post, hv, hge, hh, hr, hc, hs, hcm⟩
      · exact .inl ⟨hv, hl, trivial⟩
      · refine .inr ⟨g, e', cap, css, post, hv, by simpa using hh, hr.mono fun x cs hx => ?_, hc, by rw [if_pos trivial]; exact ⟨rfl, hs, hcm⟩⟩
        refine R_mono (own := fun b => Own X G.β st.m b ∨ b = g) ⟨fun _ _ _ => rfl, fun b hb ho => ?_⟩ hx
        rcases Own_upd_new hdead ho with ho | ho
        · exact .inl ho
        · rw [blk_row hmd, hβd, hv] at ho; simp [headOf] at ho; exact .inr ho.symm)
  refine ⟨⟨upd G.β d v, upd G.π d ([], [])⟩, ?_⟩
  rw [put_set]
  exact E'.put (some d) (fun _ h => by cases h; exact hd) (v := .row d) (x := v) (by simp only [AR]; rw [hmd]; exact hβd.symm)
theorem EnvR.newBox (E : EnvR X F w0 n G st a w) {w' : World} (hg : Grows w w') {d : Nat} (hd : d < n) (hm : st.m d = .none) {l : List AV} {e : TypeId} {cs : List Value} {g : Nat}
    (hge : w.heap.size ≤ g) (hh : w'.heap[g]? = some (.cells cs.toArray e (0, 0))) (hr : All2 (AR w (Own X G.β st.m) G.β st.m) l cs) (h1 : ∀ c ∈ cs, c.oneCell' = true) :
    ∃ G', EnvR X F w0 n G' ((st.put (some d) (.ptr d 0)).set d (.box l)) (a.put (some d) (.pointer (some ⟨g, 0, none⟩))) w' := by
  have hdead : dead (st.m d) := by rw [hm]; trivial
  have hmd : upd st.m d (.box l) d = .box l := upd_same _ _ _
  have hβd : upd G.β d (.pointer (some ⟨g, 0, none⟩)) d = .pointer (some ⟨g, 0, none⟩) := upd_same _ _ _
  obtain ⟨E', _, _⟩ := E.stepC (fun e => e = d) ⟨upd G.β d (.pointer (some ⟨g, 0, none⟩)), upd G.π d ([], [])⟩ (upd st.m d (.box l)) w'
    (fun e he => ⟨upd_other _ _ he, upd_other _ _ he, upd_other _ _ he⟩)
    (fun e he => by
      by_cases h : e = d
      · subst h; exact absurd hdead he
      · exact upd_other _ _ h)
    (fun e => by
      by_cases h : e = d
      · subst h; rw [hm]; trivial
      · rw [upd_other _ _ h]; exact Later.refl _)
    hg.size hg.os hg.tape hg.output (fun g hg' _ => hg.heap g hg')
    (fun e g' he hb => by
      subst he
      have hb : (headOf (upd G.β e (.pointer (some ⟨g, 0, none⟩)) e)).map (·.block) = some g' := by rw [← blk_box (β := upd G.β e (.pointer (some ⟨g, 0, none⟩))) hmd]; exact hb
      rw [hβd] at hb
      simp [headOf] at hb; subst hb; exact .inr hge)
    (fun e e' g he he' _ _ => he.trans he'.symm)
    (fun e he hr => by subst he; rw [hmd] at hr; cases hr)
    (fun e he A hAR => by
      subst he
      unfold MR
      rw [hmd]
      simp only
      rw [hβd, upd_same]
      exact ⟨g, _, cs, rfl, by simpa using hh, hr.mono fun _ _ => hAR, h1⟩)
  refine ⟨⟨upd G.β d (.pointer (some ⟨g, 0, none⟩)), upd G.π d ([], [])⟩, ?_⟩
  rw [put_set]
  exact E'.put (some d) (fun _ h => by cases h; exact hd) (v := .ptr d 0) (x := .pointer (some ⟨g, 0, none⟩)) (by simp only [AR]; rw [hmd]; exact ⟨_, hβd, rfl, rfl⟩)

/-- A row or a box holds something else from here on. -/
def NewAt (w w' : World) (own : Nat → Prop) (G : Gh) (m : Nat → MB) (d : Nat) : MB → Prop
  | .box l => (∃ l0, m d = .box l0) ∧ ∃ (g : Nat) (e : TypeId) (cs : List Value), G.β d = .pointer (some ⟨g, (G.π d).1.length, none⟩) ∧ But g w w' ∧
      w'.heap[g]? = some (.cells ((G.π d).1 ++ cs ++ (G.π d).2).toArray e (0, 0)) ∧ All2 (AR w' own G.β m) l cs ∧ ∀ c ∈ cs, c.oneCell' = true
  | .own app ty l => (∃ l0 : List ty.D, m d = .own app ty l0 ∧ List.length l0 = List.length l) ∧ ∃ (g : Nat) (e : TypeId) (cap : Nat) (css : List (List Value)) (post : List Value),
      G.β d = .slice (some ⟨g, (G.π d).1.length, none⟩) (List.length l) cap ∧ But g w w' ∧
      w'.heap[g]? = some (.cells ((G.π d).1 ++ css.flatten ++ post).toArray e (0, 0)) ∧ All2 (R w' own ty) l css ∧ List.length l ≤ cap ∧
      (if app = true then (G.π d).1 = [] ∧ css.flatten.length + post.length = cap * ty.n ∧ cap ≤ maxLen else post = (G.π d).2)
  | _ => False
theorem blk_upd_same {β : Nat → Value} {m : Nat → MB} {d : Nat} {b : MB} (h : blk β (upd m d b) d = blk β m d) : ∀ e, blk β (upd m d b) e = blk β m e := by
  intro e
  by_cases he : e = d
  · subst he; exact h
  · unfold blk; rw [upd_other _ _ he]
theorem EnvR.newAt (E : EnvR X F w0 n G st a w) {w' : World} {d : Nat} {b : MB} (h : NewAt w w' (Own X G.β st.m) G st.m d b) :
    EnvR X F w0 n G (st.set d b) a w' ∧ Agree w w' (Own X G.β st.m) (Own X G.β (upd st.m d b)) ∧ (∀ g, Own X G.β (upd st.m d b) g ↔ Own X G.β st.m g) ∧ ∀ e, Later (st.m e) (upd st.m d b e) := by
  have key : ∃ g, But g w w' ∧ blk G.β st.m d = some g ∧ blk G.β (upd st.m d b) d = some g ∧ Later (st.m d) b := by
    unfold NewAt at h
    cases b <;> simp only at h <;> try (exact h.elim)
    · obtain ⟨⟨l0, hm⟩, g, e, cs, hβ, hbut, _⟩ := h
      refine ⟨g, hbut, ?_, ?_, by rw [hm]; trivial⟩
      · rw [blk_box hm, hβ]; rfl
      · rw [blk_box (upd_same _ _ _), hβ]; rfl
    · obtain ⟨⟨l0, hm, hl⟩, g, e, cap, css, post, hβ, hbut, _⟩ := h
      refine ⟨g, hbut, ?_, ?_, by rw [hm]; exact ⟨rfl, hl⟩⟩
      · rw [blk_row hm, hβ]; rfl
      · rw [blk_row (upd_same _ _ _), hβ]; rfl
  obtain ⟨g, hbut, hb1, hb2, hl⟩ := key
  have hall := blk_upd_same (hb2.trans hb1.symm)
  have hown : ∀ k, Own X G.β (upd st.m d b) k ↔ Own X G.β st.m k := by
    intro k
    unfold Own
    simp only [hall]
  have hlat : ∀ e, Later (st.m e) (upd st.m d b e) := by
    intro e
    by_cases he : e = d
    · subst he; rw [upd_same]; exact hl
    · rw [upd_other _ _ he]; exact Later.refl _
  have A' : Agree w' w' (Own X G.β st.m) (Own X G.β (upd st.m d b)) := ⟨fun _ _ _ => rfl, fun k _ h => (hown k).1 h⟩
  obtain ⟨E', A, hAR⟩ := E.stepC (fun e => e = d) G (upd st.m d b) w' (fun e he => ⟨upd_other _ _ he, rfl, rfl⟩) (fun _ _ => rfl) hlat
    hbut.size hbut.os hbut.tape hbut.output
    (fun k hk hc => hbut.heap k hk fun e => hc d rfl (by rw [hb1, e]))
    (fun e k he hk => by subst he; exact .inl ⟨_, rfl, by rw [hall] at hk; exact hk⟩)
    (fun e e' k he he' _ _ => he.trans he'.symm)
    (fun e he hr => by
      subst he
      rw [upd_same] at hr
      unfold NewAt at h
      cases b <;> simp only at h <;> first | (exact h.elim) | (cases hr; done) | skip
      rename_i app ty l
      obtain ⟨⟨l0, hm, _⟩, _⟩ := h
      exact E.root _ (by rw [hm]; cases app <;> first | rfl | cases hr))
    (fun e he A hAR => by
      subst he
      unfold MR
      rw [upd_same]
      unfold NewAt at h
      cases b <;> simp only at h ⊢ <;> try (exact h.elim)
      · obtain ⟨_, g', e, cs, hβ, _, hh, hr, h1⟩ := h
        exact ⟨g', e, cs, hβ, hh, hr.mono fun _ _ => AR_mono A' (fun _ _ => rfl) hlat, h1⟩
      · obtain ⟨_, g', e, cap, css, post, hβ, _, hh, hr, hc, happ⟩ := h
        exact .inr ⟨g', e, cap, css, post, hβ, hh, hr.mono fun _ _ => R_mono A', hc, happ⟩)
  exact ⟨E', A, hown, hlat⟩
/-- A row is written no more. -/
theorem EnvR.freeze (E : EnvR X F w0 n G st a w) (d : Nat) : EnvR X F w0 n G (st.set d (st.m d).freeze) a w ∧
    (∀ e g, blk G.β (upd st.m d (st.m d).freeze) e = some g → blk G.β st.m e = some g) ∧ (∀ g, blk G.β st.m d = some g → ¬ Own X G.β (upd st.m d (st.m d).freeze) g) := by
  have hnone : blk G.β (upd st.m d (st.m d).freeze) d = none := by
    unfold blk; rw [upd_same]; cases st.m d <;> rfl
  have hsubb : ∀ e g, blk G.β (upd st.m d (st.m d).freeze) e = some g → blk G.β st.m e = some g := by
    intro e g h
    by_cases he : e = d
    · subst he; rw [hnone] at h; cases h
    · unfold blk at h ⊢; rwa [upd_other _ _ he] at h
  have hsub : ∀ g, Own X G.β (upd st.m d (st.m d).freeze) g → Own X G.β st.m g := by
    intro g h
    rcases h with h | ⟨e, h⟩
    · exact .inl h
    · exact .inr ⟨e, hsubb e g h⟩
  have hfree : ∀ g, blk G.β st.m d = some g → ¬ Own X G.β (upd st.m d (st.m d).freeze) g := by
    intro g hg h
    rcases h with h | ⟨e, h⟩
    · exact E.notX d g hg h
    · by_cases he : e = d
      · subst he; rw [hnone] at h; cases h
      · unfold blk at h; rw [upd_other _ _ he] at h
        exact he (E.disj e d g h hg)
  have hlat : ∀ e, Later (st.m e) (upd st.m d (st.m d).freeze e) := by
    intro e
    by_cases he : e = d
    · subst he; rw [upd_same]; cases st.m e <;> simp [Later, MB.freeze]
    · rw [upd_other _ _ he]; exact Later.refl _
  obtain ⟨E', _, _⟩ := E.stepC (fun e => e = d) G (upd st.m d (st.m d).freeze) w (fun e he => ⟨upd_other _ _ he, rfl, rfl⟩) (fun _ _ => rfl) hlat
    (Nat.le_refl _) rfl rfl rfl (fun _ _ _ => rfl)
    (fun e k he hk => by subst he; rw [hnone] at hk; cases hk)
    (fun e e' k he he' _ _ => he.trans he'.symm)
    (fun e he hr => by subst he; rw [upd_same] at hr; cases hm : st.m e <;> rw [hm] at hr <;> cases hr)
    (fun e he A hAR => by
      subst he
      have hM := E.mems e
      unfold MR
      rw [upd_same]
      have hs' := hsub
      have hf' := hfree
      cases hm : st.m e <;> simp only [MB.freeze] <;> rw [hm] at hs' hf'
      · exact row_R hM hm hs' hf'
      · have : MR w (Own X G.β st.m) G st.m e := hM
        unfold MR at this; rw [hm] at this; simp only at this
        exact R_mono ⟨fun _ _ _ => rfl, fun g _ h => hs' g h⟩ this)
  exact ⟨E', hsubb, hfree⟩
theorem EnvR.kill (E : EnvR X F w0 n G st a w) : ∀ ds : List Nat, EnvR X F w0 n G (st.kill ds) a w ∧ (∀ e g, blk G.β (st.kill ds).m e = some g → blk G.β st.m e = some g) ∧ Free G.β st.m (Own X G.β (st.kill ds).m) ds
  | [] => ⟨E, fun _ _ h => h, fun _ h => by cases h⟩
  | d :: ds => by
    obtain ⟨E1, hs1, hf1⟩ := EnvR.kill E ds
    obtain ⟨E2, hs2, hf2⟩ := E1.freeze d
    refine ⟨E2, fun e g h => hs1 e g (hs2 e g h), ?_⟩
    intro e he g hg hown
    have h1 : Own X G.β (st.kill ds).m g := by
      rcases hown with h | ⟨k, h⟩
      · exact .inl h
      · exact .inr ⟨k, hs2 k g h⟩
    rcases List.mem_cons.1 he with rfl | he
    · by_cases hb : blk G.β (st.kill ds).m e = some g
      · exact hf2 g hb hown
      · rcases h1 with h | ⟨k, h⟩
        · exact E.notX e g hg h
        · have := E.disj k e g (hs1 k g h) hg
          subst this
          exact hb h
    · exact hf1 e he g hg h1
theorem Own_kill {β : Nat → Value} {m m' : Nat → MB} (h : ∀ e g, blk β m' e = some g → blk β m e = some g) {g : Nat} (ho : Own X β m' g) : Own X β m g := by
  rcases ho with ho | ⟨k, ho⟩
  · exact .inl ho
  · exact .inr ⟨k, h k g ho⟩
end Go.Proofs.Yteidggfjcanbjaa.E
