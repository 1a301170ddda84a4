/- The state of a call: what the evaluator's state says of it, and the ways it goes on. -/
import Derived.Test.YteidggfjcanbjaaQClockMoreS1
namespace Go.Proofs.Yteidggfjcanbjaa.E
open Go Go.RowKit
set_option linter.unusedVariables false
set_option linter.unusedSimpArgs false

theorem upd_same {α : Type} (f : Nat → α) (d : Nat) (v : α) : upd f d v d = v := by
  show cond (Nat.beq d d) v (f d) = v
  rw [Nat.beq_refl]; rfl
theorem upd_other {α : Type} (f : Nat → α) {d e : Nat} (v : α) (h : e ≠ d) : upd f d v e = f e := by
  simp only [upd]
  have : Nat.beq e d = false := by
    cases hb : Nat.beq e d
    · rfl
    · exact absurd (Nat.eq_of_beq_eq_true hb) h
  rw [this]; rfl
theorem upd_self {α : Type} (f : Nat → α) (d : Nat) : upd f d (f d) = f := by
  funext e
  by_cases h : e = d
  · subst h; rw [upd_same]
  · rw [upd_other f _ h]

def blk (β : Nat → Value) (m : Nat → MB) (d : Nat) : Option Nat := match m d with
  | .box _ => (headOf (β d)).map (·.block)
  | .own _ _ _ => (headOf (β d)).map (·.block)
  | _ => none
def Own (X : Nat → Prop) (β : Nat → Value) (m : Nat → MB) (g : Nat) : Prop := X g ∨ ∃ d, blk β m d = some g
def MR (w : World) (own : Nat → Prop) (G : Gh) (m : Nat → MB) (d : Nat) : Prop := match m d with
  | .box l => ∃ (g : Nat) (e : TypeId) (cs : List Value), G.β d = .pointer (some ⟨g, (G.π d).1.length, none⟩) ∧
      w.heap[g]? = some (.cells ((G.π d).1 ++ cs ++ (G.π d).2).toArray e (0, 0)) ∧ All2 (AR w own G.β m) l cs ∧ ∀ c ∈ cs, c.oneCell' = true
  | .own app ty l => (G.β d = .slice none 0 0 ∧ l = [] ∧ app = true) ∨
      ∃ (g : Nat) (e : TypeId) (cap : Nat) (css : List (List Value)) (post : List Value), G.β d = .slice (some ⟨g, (G.π d).1.length, none⟩) (List.length l) cap ∧
      w.heap[g]? = some (.cells ((G.π d).1 ++ css.flatten ++ post).toArray e (0, 0)) ∧ All2 (R w own ty) l css ∧ List.length l ≤ cap ∧
      (if app = true then (G.π d).1 = [] ∧ css.flatten.length + post.length = cap * ty.n ∧ cap ≤ maxLen else post = (G.π d).2)
  | .froz ty l => R w own (.lst ty) l [G.β d]
  | _ => True
theorem blk_lt {w : World} {own : Nat → Prop} {G : Gh} {m : Nat → MB} {d g : Nat} (h : MR w own G m d) (hb : blk G.β m d = some g) : g < w.heap.size := by
  unfold MR at h; unfold blk at hb
  cases hm : m d <;> rw [hm] at h hb <;> simp only at h hb <;> try (cases hb; done)
  · obtain ⟨g', e, cs, hβ, hh, _⟩ := h
    rw [hβ] at hb; simp [headOf] at hb; subst hb
    exact (Array.getElem?_eq_some_iff.1 hh).1
  · rcases h with ⟨hβ, _⟩ | ⟨g', e, cap, css, post, hβ, hh, _⟩
    · rw [hβ] at hb; simp [headOf] at hb
    · rw [hβ] at hb; simp [headOf] at hb; subst hb
      exact (Array.getElem?_eq_some_iff.1 hh).1
theorem MR_mono {w w' : World} {own own' : Nat → Prop} {G G' : Gh} {m m' : Nat → MB} (A : Agree w w' own own') (hβ : ∀ d, ¬ dead (m d) → G'.β d = G.β d) (hl : ∀ d, Later (m d) (m' d))
    {d : Nat} (hm : m' d = m d) (hβd : G'.β d = G.β d) (hπ : G'.π d = G.π d) (hb : ∀ g, blk G.β m d = some g → w'.heap[g]? = w.heap[g]?) (h : MR w own G m d) : MR w' own' G' m' d := by
  unfold MR at h ⊢; unfold blk at hb
  rw [hm, hβd, hπ]
  cases hmd : m d <;> rw [hmd] at h hb <;> simp only at h hb ⊢
  · obtain ⟨g, e, cs, h1, h2, h3, h4⟩ := h
    refine ⟨g, e, cs, h1, ?_, h3.mono fun _ _ => AR_mono A hβ hl, h4⟩
    rw [hb g (by rw [h1]; rfl)]; exact h2
  · rcases h with h | ⟨g, e, cap, css, post, h1, h2, h3, h4⟩
    · exact .inl h
    · refine .inr ⟨g, e, cap, css, post, h1, ?_, h3.mono fun _ _ => R_mono A, h4⟩
      rw [hb g (by rw [h1]; rfl)]; exact h2
  · exact R_mono A h

/-- A row that was handed over to be written on: its head, and what stands around it; what may be written on. -/
structure Root where
  f : Nat → Prop
  v : Value
  π : List Value × List Value
instance : CoeFun Root (fun _ => Nat → Prop) := ⟨Root.f⟩
def isRoot : MB → Bool
  | .own false _ _ => true
  | _ => false
structure EnvR (X : Nat → Prop) (F : Root) (w0 : World) (n : Nat) (G : Gh) (st : St) (a : Act) (w : World) : Prop where
  slots : ∀ t, AR w (Own X G.β st.m) G.β st.m (st.s t) (a.tmps.getD t undef)
  mems : ∀ d, MR w (Own X G.β st.m) G st.m d
  disj : ∀ d d' g, blk G.β st.m d = some g → blk G.β st.m d' = some g → d = d'
  notX : ∀ d g, blk G.β st.m d = some g → ¬ X g
  fresh : ∀ d g, blk G.β st.m d = some g → w0.heap.size ≤ g ∨ F g
  xlt : ∀ g, X g → g < w0.heap.size
  defers : a.defers = []
  size : a.tmps.size = n
  os : w.os = w0.os
  tape : w.tape = w0.tape
  output : w.output = w0.output
  grown : w0.heap.size ≤ w.heap.size
  keep : ∀ k, k < w0.heap.size → ¬ F k → w.heap[k]? = w0.heap[k]?
  root : ∀ d, isRoot (st.m d) = true → G.β d = F.v ∧ G.π d = F.π

variable {X : Nat → Prop} {F : Root} {w0 : World} {n : Nat} {G : Gh} {st : St} {a : Act} {w : World}

theorem put_getD (a : Act) (dst : Option Nat) (x : Value) (t : Nat) (h : ∀ d, dst = some d → d < a.tmps.size) :
    (a.put dst x).tmps.getD t undef = (match dst with | some d => if t = d then x else a.tmps.getD t undef | none => a.tmps.getD t undef) := by
  cases dst with
  | none => rfl
  | some d =>
    have hd := h d rfl
    simp only [Act.put, Array.getD_eq_getD_getElem?, Array.getElem?_setIfInBounds]
    by_cases e : t = d
    · subst e; simp [hd]
    · rw [if_neg e, if_neg (Ne.symm e)]
theorem put_size (a : Act) (dst : Option Nat) (x : Value) : (a.put dst x).tmps.size = a.tmps.size := by cases dst <;> simp [Act.put]
theorem put_defers (a : Act) (dst : Option Nat) (x : Value) : (a.put dst x).defers = a.defers := by cases dst <;> simp [Act.put]
theorem St.put_m (st : St) (dst : Option Nat) (v : AV) : (st.put dst v).m = st.m := by cases dst <;> rfl
theorem St.put_s (st : St) (dst : Option Nat) (v : AV) (t : Nat) : (st.put dst v).s t = (match dst with | some d => if t = d then v else st.s t | none => st.s t) := by
  cases dst with
  | none => rfl
  | some d =>
    show upd st.s d v t = _
    by_cases e : t = d
    · subst e; simp [upd_same]
    · simp [upd_other _ _ e, e]

/-- A value is put into a slot. -/
theorem EnvR.put (E : EnvR X F w0 n G st a w) (dst : Option Nat) (hd : ∀ d, dst = some d → d < n) {v : AV} {x : Value} (h : AR w (Own X G.β st.m) G.β st.m v x) :
    EnvR X F w0 n G (st.put dst v) (a.put dst x) w := by
  have hd' : ∀ d, dst = some d → d < a.tmps.size := by rw [E.size]; exact hd
  refine ⟨fun t => ?_, fun d => by rw [St.put_m]; exact E.mems d, by rw [St.put_m]; exact E.disj, by rw [St.put_m]; exact E.notX, by rw [St.put_m]; exact E.fresh, E.xlt, by rw [put_defers]; exact E.defers, by rw [put_size]; exact E.size, E.os, E.tape, E.output, E.grown, E.keep, by rw [St.put_m]; exact E.root⟩
  rw [St.put_m, put_getD a dst x t hd', St.put_s]
  cases dst with
  | none => exact E.slots t
  | some d =>
    by_cases e : t = d
    · simp only [e, if_true]; exact h
    · simp only [e, if_false]; exact E.slots t

/-- Some rows and boxes change; what was there else stays; memory may grow. -/
theorem EnvR.stepC (E : EnvR X F w0 n G st a w) (C : Nat → Prop) (G' : Gh) (m' : Nat → MB) (w' : World)
    (hkeep : ∀ d, ¬ C d → m' d = st.m d ∧ G'.β d = G.β d ∧ G'.π d = G.π d)
    (hold : ∀ d, ¬ dead (st.m d) → G'.β d = G.β d) (hl : ∀ d, Later (st.m d) (m' d))
    (hsize : w.heap.size ≤ w'.heap.size) (hos : w'.os = w.os) (htape : w'.tape = w.tape) (hout : w'.output = w.output)
    (hheap : ∀ g, g < w.heap.size → (∀ d, C d → blk G.β st.m d ≠ some g) → w'.heap[g]? = w.heap[g]?)
    (hown : ∀ d g, C d → blk G'.β m' d = some g → (∃ d1, C d1 ∧ blk G.β st.m d1 = some g) ∨ w.heap.size ≤ g)
    (huniq : ∀ d d' g, C d → C d' → blk G'.β m' d = some g → blk G'.β m' d' = some g → d = d')
    (hroot : ∀ d, C d → isRoot (m' d) = true → G'.β d = F.v ∧ G'.π d = F.π)
    (hMR : ∀ d, C d → Agree w w' (Own X G.β st.m) (Own X G'.β m') →
      (∀ {x : AV} {v : Value}, AR w (Own X G.β st.m) G.β st.m x v → AR w' (Own X G'.β m') G'.β m' x v) → MR w' (Own X G'.β m') G' m' d) :
    EnvR X F w0 n G' ⟨st.s, m'⟩ a w' ∧ Agree w w' (Own X G.β st.m) (Own X G'.β m') ∧
      (∀ {x : AV} {v : Value}, AR w (Own X G.β st.m) G.β st.m x v → AR w' (Own X G'.β m') G'.β m' x v) := by
  have hb : ∀ d, ¬ C d → blk G'.β m' d = blk G.β st.m d := by
    intro d e
    unfold blk; rw [(hkeep d e).1, (hkeep d e).2.1]
  have hlt : ∀ d g, blk G.β st.m d = some g → g < w.heap.size := fun d g h => blk_lt (E.mems d) h
  have howned : ∀ d g, blk G'.β m' d = some g → (∃ d1, (d1 = d ∨ C d ∧ C d1) ∧ blk G.β st.m d1 = some g) ∨ (C d ∧ w.heap.size ≤ g) := by
    intro d g h
    by_cases e : C d
    · rcases hown d g e h with ⟨d1, h1, h2⟩ | h
      · exact .inl ⟨d1, .inr ⟨e, h1⟩, h2⟩
      · exact .inr ⟨e, h⟩
    · rw [hb d e] at h; exact .inl ⟨d, .inl rfl, h⟩
  have A : Agree w w' (Own X G.β st.m) (Own X G'.β m') := by
    refine ⟨fun g hg ho => hheap g hg fun d _ h => ho (.inr ⟨d, h⟩), fun g hg ho => ?_⟩
    rcases ho with h | ⟨d, h⟩
    · exact .inl h
    · rcases howned d g h with ⟨d1, _, h⟩ | ⟨_, h⟩
      · exact .inr ⟨d1, h⟩
      · omega
  have hAR : ∀ {x : AV} {v : Value}, AR w (Own X G.β st.m) G.β st.m x v → AR w' (Own X G'.β m') G'.β m' x v := AR_mono A hold hl
  refine ⟨⟨fun t => hAR (E.slots t), fun d => ?_, fun d d' g h h' => ?_, fun d g h hx => ?_, fun d g h => ?_, E.xlt, E.defers, E.size, hos.trans E.os, htape.trans E.tape, hout.trans E.output, Nat.le_trans E.grown hsize, fun k hk hF => ?_, fun d hd => ?_⟩, A, hAR⟩
  · by_cases e : C d
    · exact hMR d e A hAR
    · refine MR_mono A hold hl (hkeep d e).1 (hkeep d e).2.1 (hkeep d e).2.2 (fun g hg => ?_) (E.mems d)
      exact hheap g (hlt d g hg) fun d' hd' h => e (by rw [E.disj d d' g hg h]; exact hd')
  · by_cases e : C d <;> by_cases e' : C d'
    · exact huniq d d' g e e' h h'
    · rw [hb d' e'] at h'
      rcases hown d g e h with ⟨d1, h1, h2⟩ | h2
      · exact absurd h1 (by rw [E.disj d1 d' g h2 h']; exact e')
      · have := hlt d' g h'; omega
    · rw [hb d e] at h
      rcases hown d' g e' h' with ⟨d1, h1, h2⟩ | h2
      · exact absurd h1 (by rw [E.disj d1 d g h2 h]; exact e)
      · have := hlt d g h; omega
    · rw [hb d e] at h; rw [hb d' e'] at h'; exact E.disj d d' g h h'
  · rcases howned d g h with ⟨d1, _, h1⟩ | ⟨_, h1⟩
    · exact E.notX d1 g h1 hx
    · have := E.xlt g hx; have := E.grown; omega
  · rcases howned d g h with ⟨d1, _, h1⟩ | ⟨_, h1⟩
    · exact E.fresh d1 g h1
    · exact .inl (Nat.le_trans E.grown h1)
  · rw [hheap k (Nat.lt_of_lt_of_le hk E.grown) ?_]
    · exact E.keep k hk hF
    · intro d _ h
      rcases E.fresh d k h with h1 | h1
      · omega
      · exact hF h1
  · by_cases e : C d
    · exact hroot d e hd
    · obtain ⟨e1, e2, e3⟩ := hkeep d e
      rw [e2, e3]
      exact E.root d (by rw [← e1]; exact hd)
/-- Memory grows; nothing that was there changes. -/
theorem EnvR.grow (E : EnvR X F w0 n G st a w) (w' : World) (hsize : w.heap.size ≤ w'.heap.size) (hos : w'.os = w.os) (htape : w'.tape = w.tape) (hout : w'.output = w.output)
    (hheap : ∀ g, g < w.heap.size → w'.heap[g]? = w.heap[g]?) :
    EnvR X F w0 n G st a w' ∧ Agree w w' (Own X G.β st.m) (Own X G.β st.m) := by
  have A : Agree w w' (Own X G.β st.m) (Own X G.β st.m) := ⟨fun g hg _ => hheap g hg, fun _ _ h => h⟩
  refine ⟨⟨fun t => AR_mono A (fun _ _ => rfl) (fun _ => Later.refl _) (E.slots t), fun d => ?_, E.disj, E.notX, E.fresh, E.xlt, E.defers, E.size, hos.trans E.os, htape.trans E.tape, hout.trans E.output, Nat.le_trans E.grown hsize, fun k hk hF => ?_, E.root⟩, A⟩
  · exact MR_mono A (fun _ _ => rfl) (fun _ => Later.refl _) rfl rfl rfl (fun g hg => hheap g (blk_lt (E.mems d) hg)) (E.mems d)
  · rw [hheap k (Nat.lt_of_lt_of_le hk E.grown)]; exact E.keep k hk hF
end Go.Proofs.Yteidggfjcanbjaa.E
