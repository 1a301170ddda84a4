/- Where ways meet: the state that goes on. -/
import Derived.Test.YteidggfjcanbjaaQClockMoreS16
namespace Go.Proofs.Yteidggfjcanbjaa.E
open Go Go.RowKit
set_option linter.unusedVariables false
set_option linter.unusedSimpArgs false

variable {P : Program} {X : Nat → Prop} {F : Root} {w0 : World} {n : Nat} {G : Gh} {st : St} {a : Act} {w : World} {o : Oper}

structure MetInv (F : Root) (st : St) (G : Gh) (own : Nat → Prop) (l : List (Nat × LK)) (S : St) (G' : Gh) (a : Act) (w : World) : Prop where
  slots : ∀ t, AR w own G'.β S.m (S.s t) (a.tmps.getD t undef)
  mems : ∀ d, MR w own G' S.m d
  src : ∀ d g, blk G'.β S.m d = some g → ∃ e ∈ metRow st l, blk G.β st.m e = some g
  disj : ∀ d d' g, blk G'.β S.m d = some g → blk G'.β S.m d' = some g → d = d'
  out : ∀ d, d ∉ l.map (·.1) → S.m d = .none
  root : ∀ d, isRoot (S.m d) = true → G'.β d = F.v ∧ G'.π d = F.π
theorem met_val {own : Nat → Prop} {l : List (Nat × LK)} {S : St} {G' : Gh} (I : MetInv F st G own l S G' a w) {d : Nat} {t : Ty} {x : t.D} (hv : VR w own t x (a.tmps.getD d undef)) :
    MetInv F st G own ((d, .val t) :: l) (S.put (some d) (.t t x)) G' a w := by
  refine ⟨fun u => ?_, I.mems, I.src, I.disj, fun e he => I.out e (fun h => he (by simp at h ⊢; exact .inr h)), I.root⟩
  rw [St.put_m, St.put_s]
  by_cases e : u = d
  · simp only [e, if_true]; exact hv
  · simp only [e, if_false]; exact I.slots u
theorem met_new {own : Nat → Prop} {l : List (Nat × LK)} {S : St} {G' : Gh} (I : MetInv F st G own l S G' a w) {d : Nat} {k : LK} {b : MB} {x : AV} {v : Value} {p : List Value × List Value} (hd : d ∉ l.map (·.1))
    (hM : MR w own ⟨upd G'.β d v, upd G'.π d p⟩ (upd S.m d b) d) (hx : AR w own (upd G'.β d v) (upd S.m d b) x (a.tmps.getD d undef))
    (hb : ∀ g, blk (upd G'.β d v) (upd S.m d b) d = some g → ∃ e, e ∈ metRow st ((d, k) :: l) ∧ e ∉ metRow st l ∧ blk G.β st.m e = some g) (hs : ∀ e ∈ metRow st l, e ∈ metRow st ((d, k) :: l))
    (hdis : ∀ e e' g, blk G.β st.m e = some g → blk G.β st.m e' = some g → e = e') (hrt : isRoot b = true → v = F.v ∧ p = F.π) :
    MetInv F st G own ((d, k) :: l) ((S.put (some d) x).set d b) ⟨upd G'.β d v, upd G'.π d p⟩ a w := by
  have hnone := I.out d hd
  have A : Agree w w own own := ⟨fun _ _ _ => rfl, fun _ _ h => h⟩
  have hβ : ∀ e, ¬ dead (S.m e) → upd G'.β d v e = G'.β e := by
    intro e he
    by_cases h : e = d
    · subst h; rw [hnone] at he; exact absurd trivial he
    · exact upd_other _ _ h
  have hl : ∀ e, Later (S.m e) (upd S.m d b e) := by
    intro e
    by_cases h : e = d
    · subst h; rw [hnone]; trivial
    · rw [upd_other _ _ h]; exact Later.refl _
  have hblk : ∀ e, e ≠ d → blk (upd G'.β d v) (upd S.m d b) e = blk G'.β S.m e := by
    intro e he; unfold blk; rw [upd_other _ _ he, upd_other _ _ he]
  rw [put_set]
  refine ⟨fun u => ?_, fun e => ?_, fun e g h => ?_, fun e e' g h h' => ?_, fun e he => ?_, fun e hr => ?_⟩
  · rw [St.put_m, St.put_s]
    by_cases e : u = d
    · subst e; simp only [if_true]; exact hx
    · simp only [e, if_false]; exact AR_mono A hβ hl (I.slots u)
  · rw [St.put_m]
    by_cases he : e = d
    · subst he; exact hM
    · exact MR_mono A hβ hl (upd_other _ _ he) (upd_other _ _ he) (upd_other _ _ he) (fun _ _ => rfl) (I.mems e)
  · rw [St.put_m] at h
    by_cases he : e = d
    · subst he
      obtain ⟨e', h1, _, h2⟩ := hb g h
      exact ⟨e', h1, h2⟩
    · have h : blk (upd G'.β d v) (upd S.m d b) e = some g := h
      rw [hblk e he] at h
      obtain ⟨e', h1, h2⟩ := I.src e g h
      exact ⟨e', hs e' h1, h2⟩
  · rw [St.put_m] at h h'
    have h : blk (upd G'.β d v) (upd S.m d b) e = some g := h
    have h' : blk (upd G'.β d v) (upd S.m d b) e' = some g := h'
    by_cases he : e = d <;> by_cases he' : e' = d
    · rw [he, he']
    · subst he
      rw [hblk e' he'] at h'
      obtain ⟨f, _, h1, h2⟩ := hb g h
      obtain ⟨f', h3, h4⟩ := I.src e' g h'
      exact absurd (hdis f f' g h2 h4 ▸ h3) h1
    · subst he'
      rw [hblk e he] at h
      obtain ⟨f, _, h1, h2⟩ := hb g h'
      obtain ⟨f', h3, h4⟩ := I.src e g h
      exact absurd (hdis f f' g h2 h4 ▸ h3) h1
    · rw [hblk e he] at h; rw [hblk e' he'] at h'; exact I.disj e e' g h h'
  · rw [St.put_m]
    simp only [List.map_cons, List.mem_cons, not_or] at he
    show upd S.m d b e = .none
    rw [upd_other _ _ he.1]; exact I.out e he.2
  · rw [St.put_m] at hr
    have hr : isRoot (upd S.m d b e) = true := hr
    show upd G'.β d v e = _ ∧ upd G'.π d p e = _
    by_cases he : e = d
    · subst he; rw [upd_same] at hr; rw [upd_same, upd_same]; exact hrt hr
    · rw [upd_other _ _ he] at hr; rw [upd_other _ _ he, upd_other _ _ he]; exact I.root e hr
theorem at_rows (x : AV) (m : Nat → MB) : ∀ d ∈ rowsOf [(x.at m).1], d ∈ rowsOf [x] := by
  intro d hd
  cases x <;> simp only [AV.at] at hd <;> first | exact hd | skip
  all_goals (split at hd <;> first | exact hd | (simp [rowsOf] at hd))
theorem capCells_R (E : EnvR X F w0 n G st a w) {own : Nat → Prop} (hsub : ∀ g, own g → Own X G.β st.m g) {β : Nat → Value} {m : Nat → MB} : ∀ {l : List AV} {ts : List Ty} {x : (tysTy ts).D} {cs : List Value}, capCells st.m l ts = some x →
    All2 (AR w (Own X G.β st.m) G.β st.m) l cs → Free G.β st.m own (rowsOf l) → All2 (AR w own β m) (uncells ts x) cs
  | [], [], x, cs, h, hc, _ => by cases cs <;> first | exact hc.elim | trivial
  | [v], [t], x, [], h, hc, _ => hc.elim
  | [v], [t], x, [c], h, ⟨hv, _⟩, hf => by
    simp only [capCells] at h
    exact ⟨asOne_VR E.mems (at_LR E.mems hv) h hsub (hf.sub (at_rows v st.m)), trivial⟩
  | [v], [t], x, _ :: _ :: _, h, hc, _ => hc.2.elim
  | v :: u :: r, t :: q :: ts, x, [], h, hc, _ => hc.elim
  | v :: u :: r, t :: q :: ts, x, c :: cs, h, ⟨hv, hr⟩, hf => by
    simp only [capCells] at h
    split at h
    · rename_i y z h1 h2
      obtain rfl := Option.some.inj h
      exact ⟨asOne_VR E.mems (at_LR E.mems hv) h1 hsub (fun d hd => hf d (rowsOf_cons v _ d (at_rows v st.m d hd))), capCells_R E hsub h2 hr (hf.sub (rowsOf_tail v _))⟩
    · cases h
  | [], _ :: _, x, cs, h, hc, _ => by simp [capCells] at h
  | _ :: _, [], x, cs, h, hc, _ => by simp [capCells] at h
  | [_], _ :: _ :: _, x, cs, h, hc, _ => by simp [capCells] at h
  | _ :: _ :: _, [_], x, cs, h, hc, _ => by simp [capCells] at h
/-- What the whole list writes on. -/
def OwnM (X : Nat → Prop) (G : Gh) (st : St) (L : List (Nat × LK)) (g : Nat) : Prop := X g ∨ ∃ e ∈ metRow st L, blk G.β st.m e = some g
theorem apartB_not {vals : List Nat} : ∀ {rows : List Nat}, apartB vals rows = true → ∀ d ∈ rows, d ∉ vals
  | [], _, _, h => by cases h
  | n :: r, h, d, hd => by
    simp only [apartB, Bool.and_eq_true, Bool.not_eq_true'] at h
    rcases List.mem_cons.1 hd with rfl | hd
    · exact memN_false h.1.2
    · exact apartB_not h.2 d hd
theorem met_head (E : EnvR X F w0 n G st a w) {L l : List (Nat × LK)} {d : Nat} {k : LK} (hrow : ∀ e ∈ metRow st ((d, k) :: l), e ∈ metRow st L) (hval : ∀ e ∈ metVal st ((d, k) :: l), e ∈ metVal st L)
    (hap : apartB (metVal st L) (metRow st ((d, k) :: l)) = true) (hapL : apartB (metVal st L) (metRow st L) = true) (hd : d ∉ l.map (·.1)) {S : St} {G' : Gh} (I : MetInv F st G (OwnM X G st L) l S G' a w) {x : k.ty.D} (hx : capOne st d k = some x) :
    ∃ G'', MetInv F st G (OwnM X G st L) ((d, k) :: l) (restOne S d k x) G'' a w := by
  have hsub : ∀ g, OwnM X G st L g → Own X G.β st.m g := by
    rintro g (h | ⟨e, _, h⟩)
    · exact .inl h
    · exact .inr ⟨e, h⟩
  have hfree : ∀ ds : List Nat, (∀ e ∈ ds, e ∈ metVal st L) → Free G.β st.m (OwnM X G st L) ds := by
    intro ds hds e he g hg h
    rcases h with h | ⟨f, hf, hfg⟩
    · exact E.notX e g hg h
    · have := E.disj e f g hg hfg
      subst this
      exact apartB_not hapL e hf (hds e he)
  have A : Agree w w (Own X G.β st.m) (OwnM X G st L) := ⟨fun _ _ _ => rfl, fun g _ h => hsub g h⟩
  have hslot := E.slots d
  cases k with
  | val t =>
    simp only [capOne] at hx
    refine ⟨G', met_val I (asOne_VR E.mems (at_LR E.mems hslot) hx hsub (hfree _ fun e he => hval e ?_))⟩
    simp only [metVal]
    exact List.mem_append.2 (.inl (at_rows _ _ e he))
  | own app t =>
    simp only [capOne] at hx
    cases hs : st.s d <;> rw [hs] at hx hslot <;> (try simp only at hx) <;> first | (cases hx; done) | skip
    · rename_i ty y
      cases ty <;> simp only at hx <;> first | (cases hx; done) | skip
      cases app <;> simp only at hx <;> first | (cases hx; done) | skip
      obtain rfl := Option.some.inj hx
      have hv := VR_nil hslot
      have hrl : metRow st ((d, .own true t) :: l) = metRow st l := by simp only [metRow, hs]; rfl
      refine ⟨_, met_new I (v := .slice none 0 0) (p := ([], [])) (b := .own true t []) (x := .row d) hd ?_ ?_ ?_ (fun e he => by rw [hrl]; exact he) E.disj (fun h => by cases h)⟩
      · unfold MR; rw [upd_same]; simp only; rw [upd_same]; exact .inl (by simp)
      · simp only [AR]; rw [upd_same]; simp only; rw [upd_same]; exact hv
      · intro g hg
        rw [blk_row (upd_same _ _ _), upd_same] at hg
        simp [headOf] at hg
    · rename_i e
      cases hm : st.m e <;> rw [hm] at hx <;> simp only at hx <;> first | (cases hx; done) | skip
      rename_i b a0 l0
      cases hb : b == app <;> rw [hb] at hx <;> simp only [cond_true, cond_false] at hx <;> first | (cases hx; done) | skip
      have hb : b = app := by simpa using hb
      subst hb
      simp only [asOne] at hx
      split at hx
      · rename_i he; subst he
        obtain rfl := Option.some.inj hx
        have hrl : metRow st ((d, .own b a0) :: l) = e :: metRow st l := by simp only [metRow, hs, rowsOf]; rfl
        have hv : a.tmps.getD d undef = G.β e := by simp only [AR, hm] at hslot; exact hslot
        rw [hrl] at hap hrow
        simp only [apartB, Bool.and_eq_true, Bool.not_eq_true'] at hap
        have hM := E.mems e
        unfold MR at hM; rw [hm] at hM; simp only at hM
        refine ⟨_, met_new I (v := G.β e) (p := G.π e) (b := .own b a0 l0) (x := .row d) hd ?_ ?_ ?_ (fun f hf => by rw [hrl]; exact List.mem_cons.2 (.inr hf)) E.disj (fun h => E.root e (by rw [hm]; cases b <;> first | exact h | cases h))⟩
        · unfold MR; rw [upd_same]; simp only; rw [upd_same, upd_same]
          rcases hM with h | ⟨g, e1, cap, css, post, h1, h2, h3, h4⟩
          · exact .inl h
          · exact .inr ⟨g, e1, cap, css, post, h1, h2, h3.mono fun _ _ h => R_mono A h, h4⟩
        · simp only [AR]; rw [upd_same]; simp only; rw [upd_same]; exact hv
        · intro g hg
          rw [blk_row (upd_same _ _ _), upd_same] at hg
          exact ⟨e, by rw [hrl]; simp, memN_false hap.1.1, by rw [blk_row hm]; exact hg⟩
      · cases hx
  | box ts =>
    simp only [capOne] at hx
    cases hs : st.s d <;> rw [hs] at hx hslot <;> (try simp only at hx) <;> first | (cases hx; done) | skip
    rename_i e off
    cases off <;> simp only at hx <;> first | (cases hx; done) | skip
    cases hm : st.m e <;> rw [hm] at hx <;> simp only at hx <;> first | (cases hx; done) | skip
    rename_i l0
    have hrl : metRow st ((d, .box ts) :: l) = e :: metRow st l := by simp only [metRow, hs]
    have hvl : metVal st ((d, .box ts) :: l) = rowsOf l0 ++ metVal st l := by simp only [metVal, hs, hm]
    have hv : ∃ ad, G.β e = .pointer (some ad) ∧ ad.spot = none ∧ a.tmps.getD d undef = .pointer (some (ad.add 0)) := by simp only [AR, hm] at hslot; exact hslot
    rw [hrl] at hap hrow
    rw [hvl] at hval
    simp only [apartB, Bool.and_eq_true, Bool.not_eq_true'] at hap
    have hM := E.mems e
    unfold MR at hM; rw [hm] at hM; simp only at hM
    obtain ⟨g0, e1, cs, h1, h2, h3, h4⟩ := hM
    refine ⟨_, met_new I (v := G.β e) (p := G.π e) (b := .box (uncells ts x)) (x := .ptr d 0) hd ?_ ?_ ?_ (fun f hf => by rw [hrl]; exact List.mem_cons.2 (.inr hf)) E.disj (fun h => by cases h)⟩
    · unfold MR; rw [upd_same]; simp only; rw [upd_same, upd_same]
      exact ⟨g0, e1, cs, h1, h2, capCells_R E hsub hx h3 (hfree _ fun f hf => hval f (List.mem_append.2 (.inl hf))), h4⟩
    · simp only [AR]; rw [upd_same]; simp only; rw [upd_same]; exact hv
    · intro g hg
      rw [blk_box (upd_same _ _ _), upd_same] at hg
      exact ⟨e, by rw [hrl]; simp, memN_false hap.1.1, by rw [blk_box hm]; exact hg⟩
theorem metRow_tail (st : St) (a : Nat × LK) (l : List (Nat × LK)) : ∃ p, metRow st (a :: l) = p ++ metRow st l := by
  obtain ⟨d, k⟩ := a
  cases k with
  | val t => exact ⟨[], rfl⟩
  | own app t => exact ⟨rowsOf [st.s d], rfl⟩
  | box ts =>
    simp only [metRow]
    split
    · exact ⟨[_], rfl⟩
    · exact ⟨[], rfl⟩
theorem metVal_tail (st : St) (a : Nat × LK) (l : List (Nat × LK)) : ∃ p, metVal st (a :: l) = p ++ metVal st l := by
  obtain ⟨d, k⟩ := a
  cases k with
  | val t => exact ⟨rowsOf [st.s d], rfl⟩
  | own app t => exact ⟨[], rfl⟩
  | box ts =>
    simp only [metVal]
    split
    · split
      · exact ⟨_, rfl⟩
      · exact ⟨[], rfl⟩
    · exact ⟨[], rfl⟩
theorem apartB_tail {vals : List Nat} : ∀ {p q : List Nat}, apartB vals (p ++ q) = true → apartB vals q = true
  | [], _, h => h
  | n :: p, q, h => by
    simp only [List.cons_append, apartB, Bool.and_eq_true] at h
    exact apartB_tail h.2
theorem met_all (E : EnvR X F w0 n G st a w) {L : List (Nat × LK)} (hapL : apartB (metVal st L) (metRow st L) = true) : ∀ (l : List (Nat × LK)) {x : (liveTy l).D}, (∀ e ∈ metRow st l, e ∈ metRow st L) → (∀ e ∈ metVal st l, e ∈ metVal st L) →
    apartB (metVal st L) (metRow st l) = true → nodupB l = true → capture st l = some x → ∃ G', MetInv F st G (OwnM X G st L) l (restore l x st0) G' a w := by
  have base : MetInv F st G (OwnM X G st L) [] st0 ⟨fun _ => undef, fun _ => ([], [])⟩ a w :=
    ⟨fun _ => trivial, fun _ => trivial, fun d g h => by simp [blk, st0] at h, fun d d' g h => by simp [blk, st0] at h, fun _ _ => rfl, fun d h => by cases h⟩
  intro l
  induction l with
  | nil => intro x _ _ _ _ _; exact ⟨_, base⟩
  | cons b l ih =>
    intro x hr hv hap hnd hx
    obtain ⟨d, k⟩ := b
    obtain ⟨p, hp⟩ := metRow_tail st (d, k) l
    obtain ⟨q, hq⟩ := metVal_tail st (d, k) l
    simp only [nodupB, Bool.and_eq_true, Bool.not_eq_true'] at hnd
    have hd := memN_false hnd.1
    cases l with
    | nil => exact met_head E hr hv hap hapL hd base hx
    | cons c r =>
      simp only [capture] at hx
      split at hx
      · rename_i y z h1 h2
        obtain rfl := Option.some.inj hx
        obtain ⟨G', I⟩ := ih (fun e he => hr e (by rw [hp]; exact List.mem_append.2 (.inr he))) (fun e he => hv e (by rw [hq]; exact List.mem_append.2 (.inr he))) (by rw [hp] at hap; exact apartB_tail hap) hnd.2 h2
        exact met_head E hr hv hap hapL hd I h1
      · cases hx
theorem catch_ok (E : EnvR X F w0 n G st a w) {ρ : Type} {l : List (Nat × LK)} {K : (liveTy l).D → M ρ} {r : ρ} (h : catch_ l st K r) : ∃ x G', K x r ∧ EnvR X F w0 n G' (restore l x st0) a w := by
  unfold catch_ at h
  cases hb : (apartB (metVal st l) (metRow st l) && nodupB l) with
  | false => rw [hb] at h; exact h.elim
  | true =>
    rw [hb] at h
    simp only at h
    simp only [Bool.and_eq_true] at hb
    cases hx : capture st l with
    | none => rw [hx] at h; exact h.elim
    | some x =>
      rw [hx] at h
      simp only at h
      obtain ⟨G', I⟩ := met_all E hb.1 l (fun _ h => h) (fun _ h => h) hb.1 hb.2 hx
      have A : Agree w w (OwnM X G st l) (Own X G'.β (restore l x st0).m) := by
        refine ⟨fun _ _ _ => rfl, fun g _ ho => ?_⟩
        rcases ho with ho | ⟨d, hd⟩
        · exact .inl ho
        · exact .inr (I.src d g hd)
      refine ⟨x, G', h, ⟨fun t => AR_mono A (fun _ _ => rfl) (fun _ => Later.refl _) (I.slots t), fun d => MR_mono A (fun _ _ => rfl) (fun _ => Later.refl _) rfl rfl rfl (fun _ _ => rfl) (I.mems d), I.disj, ?_, ?_, E.xlt, E.defers, E.size, E.os, E.tape, E.output, E.grown, E.keep, I.root⟩⟩
      · intro d g hd
        obtain ⟨e, _, he⟩ := I.src d g hd
        exact E.notX e g he
      · intro d g hd
        obtain ⟨e, _, he⟩ := I.src d g hd
        exact E.fresh e g he
end Go.Proofs.Yteidggfjcanbjaa.E
