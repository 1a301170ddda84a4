/- What has to be shown of an operation, and that it is enough. -/
import Derived.Test.YteidggfjcanbjaaQClockMoreS4
namespace Go.Proofs.Yteidggfjcanbjaa.E
open Go Go.RowKit
set_option linter.unusedVariables false
set_option linter.unusedSimpArgs false

variable {P : Program} {X : Nat → Prop} {F : Root} {w0 : World} {n : Nat} {G : Gh} {st : St} {a : Act} {w : World}

def OutR (w : World) (own : Nat → Prop) (tup : Bool) (res : Ty) (r : res.D) (v : Value) : Prop := match tup with
  | true => ∃ vs : List Value, v = .tuple vs.toArray ∧ TupR w own res r vs
  | false => VR w own res r v
def OutIO (w : World) (own : Nat → Prop) (res : Ty) (r : res.D) (v : Value) : Prop := res.isNil = true ∨ VR w own res r v
theorem OutR.av {own : Nat → Prop} {β : Nat → Value} {m : Nat → MB} {tup : Bool} {res : Ty} {r : res.D} {v : Value} (h : OutR w own tup res r v) : AR w own β m (outAV tup res r) v := by
  cases tup
  · exact h
  · exact h
theorem OutIO.av {own : Nat → Prop} {β : Nat → Value} {m : Nat → MB} {res : Ty} {r : res.D} {v : Value} (h : OutIO w own res r v) : AR w own β m (outIO res r) v := by
  unfold outIO
  rcases h with h | h
  · rw [h]; trivial
  · cases res.isNil
    · exact h
    · trivial
/-- Types without lists: what they hold does not hang on memory. -/
theorem R_flat {w w' : World} {own own' : Nat → Prop} : ∀ {t : Ty} {x : t.D} {cs : List Value}, t.hasLst = false → R w own t x cs → R w' own' t x cs
  | .int _, _, _, _, h => h
  | .bool, _, _, _, h => h
  | .str, _, _, _, h => h
  | .nil, _, _, _, h => h
  | .any, _, _, _, h => h
  | .lst _, _, _, hl, _ => by simp [Ty.hasLst] at hl
  | .pair a b, _, _, hl, h => by
    simp only [Ty.hasLst, Bool.or_eq_false_iff] at hl
    simp only [R] at h ⊢
    obtain ⟨c1, c2, rfl, h1, h2⟩ := h
    exact ⟨c1, c2, rfl, R_flat hl.1 h1, R_flat hl.2 h2⟩
  | .agg a, _, _, hl, h => by simp only [R] at h ⊢; exact R_flat (t := a) hl h
theorem VR_flat {w w' : World} {own own' : Nat → Prop} {t : Ty} {x : t.D} {v : Value} (ht : t.hasLst = false) (h : VR w own t x v) : VR w' own' t x v := ⟨R_flat ht h.1, h.2⟩

def Enters (P : Program) (o : Oper) (a : Act) (w : World) (Post : Value → World → Prop) : Prop :=
  ∃ (f : FuncId) (args : Array Value), (execOp a.eval o).run P w = .ok (.enter f args) w ∧ Calls P f args w fun e w' => ∃ v, e = .returned v ∧ Post v w'
def OpOK (P : Program) (X : Nat → Prop) (G : Gh) (st : St) (o : Oper) (a : Act) (w : World) : Res → Prop
  | .fail => True
  | .put v => ∃ x w', (execOp a.eval o).run P w = .ok (.value x) w' ∧ Grows w w' ∧ AR w' (Own X G.β st.m) G.β st.m v x
  | .ite p _ r => p → OpOK P X G st o a w r
  | .call res tup m kill => ∀ r, m r → Enters P o a w fun v w' => Grows w w' ∧ OutR w' (Own X G.β (st.kill kill).m) tup res r v
  | .callOwn ty m => ∀ r, m r → Enters P o a w fun v w' => Grows w w' ∧ NewRow w w' (Own X G.β st.m) ty r v
  | .callRow ty res m d app f => res.hasLst = false ∧ ∀ r, m r → Enters P o a w fun v w' => NewAt w w' (Own X G.β st.m) G st.m d (.own app ty (f r.2)) ∧ OutIO w' (Own X G.β st.m) res r.1 v
  | .callBox ty res m d off l => res.hasLst = false ∧ ∀ r, m r → Enters P o a w fun v w' => NewAt w w' (Own X G.β st.m) G st.m d (.box (l.set off (.t ty r.2))) ∧ OutIO w' (Own X G.β st.m) res r.1 v
  | .alloc true (.box l) => ∃ (g : Nat) (e : TypeId) (cs : List Value) (w' : World), (execOp a.eval o).run P w = .ok (.value (.pointer (some ⟨g, 0, none⟩))) w' ∧ Grows w w' ∧ w.heap.size ≤ g ∧
      w'.heap[g]? = some (.cells cs.toArray e (0, 0)) ∧ All2 (AR w (Own X G.β st.m) G.β st.m) l cs ∧ ∀ c ∈ cs, c.oneCell' = true
  | .alloc false (.own true ty l) => ∃ x w', (execOp a.eval o).run P w = .ok (.value x) w' ∧ Grows w w' ∧ NewRow w w' (Own X G.β st.m) ty l x
  | .alloc _ _ => False
  | .app base ty l kill => ∃ x w', (execOp a.eval o).run P w = .ok (.value x) w' ∧ w.heap.size ≤ w'.heap.size ∧ w'.os = w.os ∧ w'.tape = w.tape ∧ w'.output = w.output ∧
      (∀ k, k < w.heap.size → (∀ d, base = some d → blk G.β st.m d ≠ some k) → w'.heap[k]? = w.heap[k]?) ∧ (∀ d, base = some d → d ∉ kill ∧ ∃ ty l, st.m d = .own true ty l) ∧
      ((x = .slice none 0 0 ∧ l = []) ∨ ∃ (g : Nat) (e : TypeId) (cap : Nat) (css : List (List Value)) (post : List Value), x = .slice (some ⟨g, 0, none⟩) (List.length l) cap ∧
        (w.heap.size ≤ g ∨ ∃ d, base = some d ∧ blk G.β st.m d = some g) ∧
        w'.heap[g]? = some (.cells (css.flatten ++ post).toArray e (0, 0)) ∧ All2 (R w (Own X G.β (st.kill kill).m) ty) l css ∧ List.length l ≤ cap ∧ css.flatten.length + post.length = cap * ty.n ∧ cap ≤ maxLen)
  | .upd d b => ∃ w', (execOp a.eval o).run P w = .ok .skip w' ∧ NewAt w w' (Own X G.β st.m) G st.m d b

theorem kill_other (st : St) : ∀ (ds : List Nat) {e : Nat}, e ∉ ds → (st.kill ds).m e = st.m e
  | [], _, _ => rfl
  | d :: ds, e, h => by
    simp only [List.mem_cons, not_or] at h
    simp only [St.kill, set_eq]
    rw [upd_other _ _ h.1]; exact kill_other st ds h.2
theorem kill_none (st : St) : ∀ (ds : List Nat) {e : Nat}, st.m e = .none → (st.kill ds).m e = .none
  | [], _, h => h
  | d :: ds, e, hm => by
    simp only [St.kill, set_eq]
    by_cases he : e = d
    · subst he
      rw [upd_same, kill_none st ds hm]; rfl
    · rw [upd_other _ _ he]
      exact kill_none st ds hm
theorem force_eq {ρ : Type} (v : AV) (K : AV → M ρ) : v.force K = K v := by cases v <;> rfl
theorem forceL_eq {ρ : Type} : ∀ (l : List AV) (K : List AV → M ρ), forceL l K = K l
  | [], _ => rfl
  | v :: l, K => by simp only [forceL]; rw [force_eq, forceL_eq l]
theorem MBforce_eq {ρ : Type} (b : MB) (K : MB → M ρ) : b.force K = K b := by
  cases b <;> first | rfl | exact forceL_eq _ _

/-- Where an operation goes: some state that the evaluator goes on with. -/
def Goes (X : Nat → Prop) (F : Root) (w0 : World) (n : Nat) (K : St → Prop) (a : Act) (w : World) : Prop := ∃ G st, EnvR X F w0 n G st a w ∧ K st
theorem wp_value {o : Oper} {x : Value} {w' : World} {K : Act → World → Prop} {Q : Exit → Act → World → Prop} (h : (execOp a.eval o).run P w = .ok (.value x) w') (hk : K (a.put o.dst x) w') : o.wp P a w K Q := by
  unfold Oper.wp; rw [h]; exact hk
theorem wp_skip' {o : Oper} {w' : World} {K : Act → World → Prop} {Q : Exit → Act → World → Prop} (h : (execOp a.eval o).run P w = .ok .skip w') (hk : K (a.put o.dst undef) w') : o.wp P a w K Q := by
  unfold Oper.wp; rw [h]; exact hk
theorem wp_enters {o : Oper} {Post : Value → World → Prop} {K : Act → World → Prop} {Q : Exit → Act → World → Prop} (h : Enters P o a w Post) (hk : ∀ v w', Post v w' → K (a.put o.dst v) w') : o.wp P a w K Q := by
  obtain ⟨f, args, h, hc⟩ := h
  unfold Oper.wp; rw [h]
  exact hc.mono fun e w' ⟨v, he, hp⟩ => by subst he; exact hk v w' hp
theorem runRes_ok (E : EnvR X F w0 n G st a w) {o : Oper} (hd : ∀ d, o.dst = some d → d < n) {ρ : Type} {K : St → M ρ} {r : ρ} {Q : Exit → Act → World → Prop} :
    ∀ {res : Res}, OpOK P X G st o a w res → runRes o.dst st K res r → o.wp P a w (Goes X F w0 n fun st => K st r) Q
  | .fail, _, h => h.elim
  | .put v, ok, h => by
    obtain ⟨x, w', hr, hg, hv⟩ := ok
    simp only [runRes, force_eq] at h
    exact wp_value hr ⟨G, _, (E.grows hg).1.put o.dst hd hv, h⟩
  | .ite p d res, ok, h => by
    simp only [runRes] at h
    by_cases hp : p
    · rw [if_pos hp] at h; exact runRes_ok E hd (ok hp) h
    · rw [if_neg hp] at h; exact h.elim
  | .call res tup m kill, ok, h => by
    simp only [runRes] at h
    obtain ⟨y, hy, h⟩ := h
    refine wp_enters (ok y hy) fun v w' ⟨hg, hv⟩ => ?_
    obtain ⟨E1, _, _⟩ := E.kill kill
    rw [put_kill] at h
    exact ⟨G, _, (E1.grows hg).1.put o.dst hd hv.av, h⟩
  | .callOwn ty m, ok, h => by
    simp only [runRes] at h
    cases hdst : o.dst with
    | none => rw [hdst] at h; exact h.elim
    | some d =>
      rw [hdst] at h; simp only at h
      cases hm : st.m d <;> rw [hm] at h <;> simp only at h <;> first | (exact h.elim) | skip
      obtain ⟨y, hy, h⟩ := h
      refine wp_enters (ok y hy) fun v w' ⟨hg, hv⟩ => ?_
      obtain ⟨G', E'⟩ := E.newRow hg (hd d hdst) hm hv
      rw [hdst]
      exact ⟨G', _, E', h⟩
  | .callRow ty res m d app f, ok, h => by
    simp only [runRes] at h
    obtain ⟨y, hy, h⟩ := h
    refine wp_enters (ok.2 y hy) fun v w' ⟨hn, hv⟩ => ?_
    obtain ⟨E', A, hown, _⟩ := E.newAt hn
    rw [set_eq] at E'
    rw [put_set] at h
    refine ⟨G, _, E'.put o.dst hd ?_, h⟩
    have hv' : OutIO w' (Own X G.β (upd st.m d (.own app ty (f y.2)))) res y.1 v := hv.imp id (VR_flat ok.1)
    exact hv'.av
  | .callBox ty res m d off l, ok, h => by
    simp only [runRes, forceL_eq] at h
    obtain ⟨y, hy, h⟩ := h
    refine wp_enters (ok.2 y hy) fun v w' ⟨hn, hv⟩ => ?_
    obtain ⟨E', A, hown, _⟩ := E.newAt hn
    rw [set_eq] at E'
    rw [put_set] at h
    refine ⟨G, _, E'.put o.dst hd ?_, h⟩
    have hv' : OutIO w' (Own X G.β (upd st.m d (.box (l.set off (.t ty y.2))))) res y.1 v := hv.imp id (VR_flat ok.1)
    exact hv'.av
  | .alloc isP b, ok, h => by
    simp only [runRes] at h
    cases hdst : o.dst with
    | none => rw [hdst] at h; exact h.elim
    | some d =>
      rw [hdst] at h; simp only at h
      cases hm : st.m d <;> rw [hm] at h <;> simp only at h <;> first | (exact h.elim) | skip
      rw [MBforce_eq] at h
      cases isP <;> cases b <;> simp only [OpOK] at ok h <;> first | (exact ok.elim) | skip
      · rename_i app ty l
        cases app <;> simp only [OpOK] at ok
        obtain ⟨x, w', hr, hg, hn⟩ := ok
        obtain ⟨G', E'⟩ := E.newRow hg (hd d hdst) hm hn
        refine wp_value hr ?_
        rw [hdst]
        exact ⟨G', _, E', h⟩
      · obtain ⟨g, e, cs, w', hr, hg, hge, hh, hc, h1⟩ := ok
        obtain ⟨G', E'⟩ := E.newBox hg (hd d hdst) hm hge hh hc h1
        refine wp_value hr ?_
        rw [hdst]
        exact ⟨G', _, E', h⟩
  | .app base ty l kill, ok, h => by
    simp only [runRes] at h
    obtain ⟨x, w', hr, hsize, hos, htape, hout, hheap, hbase, hx⟩ := ok
    cases hdst : o.dst with
    | none => rw [hdst] at h; exact h.elim
    | some d =>
      rw [hdst] at h; simp only at h
      cases hm : st.m d <;> rw [hm] at h <;> simp only at h <;> first | (exact h.elim) | skip
      obtain ⟨E1, hsub, hfree⟩ := E.kill kill
      have hkm : ∀ e, e ∉ kill → (st.kill kill).m e = st.m e := fun e he => kill_other st kill he
      have hkd : (st.kill kill).m d = .none := kill_none st kill hm
      have hlose : ∀ e, ((st.kill kill).lose base).m e = if base = some e then .gone else (st.kill kill).m e := by
        intro e
        cases base with
        | none => simp [St.lose]
        | some b =>
          simp only [St.lose, set_eq]
          by_cases he : b = e
          · subst he; simp [upd_same]
          · rw [upd_other _ _ (Ne.symm he), if_neg (by simpa using he)]
      have hbd : base ≠ some d := by
        intro e
        obtain ⟨_, _, _, h⟩ := hbase d e
        rw [hm] at h; cases h
      have hls : ((st.kill kill).lose base).s = (st.kill kill).s := by cases base <;> simp [St.lose, set_eq]
      have hmd : upd ((st.kill kill).lose base).m d (.own true ty l) d = .own true ty l := upd_same _ _ _
      have hβd : upd G.β d x d = x := upd_same _ _ _
      have hm' : ∀ e, e ≠ d → base ≠ some e → upd ((st.kill kill).lose base).m d (.own true ty l) e = (st.kill kill).m e := by
        intro e he hb
        rw [upd_other _ _ he, hlose, if_neg hb]
      have hbk : ∀ b, base = some b → blk G.β (st.kill kill).m b = blk G.β st.m b := by
        intro b hb
        unfold blk; rw [hkm b (hbase b hb).1]
      have hgone : ∀ b, base = some b → upd ((st.kill kill).lose base).m d (.own true ty l) b = .gone := by
        intro b hb
        rw [upd_other _ _ (fun e => hbd (by rw [hb, e])), hlose, if_pos hb]
      have hown' : ∀ k, Own X (upd G.β d x) (upd ((st.kill kill).lose base).m d (.own true ty l)) k → Own X G.β (st.kill kill).m k ∨ (headOf x).map (·.block) = some k := by
        intro k hk
        rcases hk with hk | ⟨e, hk⟩
        · exact .inl (.inl hk)
        · by_cases he : e = d
          · subst he; rw [blk_row hmd, hβd] at hk; exact .inr hk
          · by_cases hb : base = some e
            · unfold blk at hk; rw [hgone e hb] at hk; cases hk
            · refine .inl (.inr ⟨e, ?_⟩)
              unfold blk at hk ⊢
              rwa [hm' e he hb, upd_other _ _ he] at hk
      obtain ⟨E2, _, _⟩ := E1.stepC (fun e => e = d ∨ base = some e) ⟨upd G.β d x, upd G.π d ([], [])⟩ (upd ((st.kill kill).lose base).m d (.own true ty l)) w'
        (fun e he => ⟨hm' e (fun h => he (.inl h)) (fun h => he (.inr h)), upd_other _ _ (fun h => he (.inl h)), upd_other _ _ (fun h => he (.inl h))⟩)
        (fun e he => by
          by_cases hed : e = d
          · subst hed; rw [hkd] at he; exact absurd trivial he
          · exact upd_other _ _ hed)
        (fun e => by
          by_cases hed : e = d
          · subst hed; rw [hkd]; trivial
          · by_cases hb : base = some e
            · rw [hgone e hb]
              obtain ⟨h1, _, _, h2⟩ := hbase e hb
              rw [hkm e h1, h2]; trivial
            · rw [hm' e hed hb]; exact Later.refl _)
        hsize hos htape hout
        (fun k hk hc => hheap k hk fun b hb => by rw [← hbk b hb]; exact hc b (.inr hb))
        (fun e k he hk => by
          rcases he with rfl | hb
          · have hk : (headOf (upd G.β e x e)).map (·.block) = some k := by rw [← blk_row (β := upd G.β e x) hmd]; exact hk
            rw [hβd] at hk
            rcases hx with ⟨rfl, _⟩ | ⟨g, _, _, _, _, rfl, hg, _⟩
            · simp [headOf] at hk
            · simp [headOf] at hk; subst hk
              rcases hg with hg | ⟨b, hb, hg⟩
              · exact .inr hg
              · exact .inl ⟨b, .inr hb, by rw [hbk b hb]; exact hg⟩
          · have hk : blk (upd G.β d x) (upd ((st.kill kill).lose base).m d (.own true ty l)) e = some k := hk
            unfold blk at hk; rw [hgone e hb] at hk; cases hk)
        (fun e e' k he he' hk hk' => by
          have key : ∀ e, (e = d ∨ base = some e) → blk (upd G.β d x) (upd ((st.kill kill).lose base).m d (.own true ty l)) e = some k → e = d := by
            intro e he hk
            rcases he with he | hb
            · exact he
            · unfold blk at hk; rw [hgone e hb] at hk; cases hk
          rw [key e he hk, key e' he' hk'])
        (fun e he hr => by
          have hr : isRoot (upd ((st.kill kill).lose base).m d (.own true ty l) e) = true := hr
          by_cases hed : e = d
          · subst hed; rw [hmd] at hr; cases hr
          · rw [hgone e (he.resolve_left hed)] at hr; cases hr)
        (fun e he A hAR => by
          by_cases hed : e = d
          · subst hed
            unfold MR
            rw [hmd]
            simp only
            rw [hβd, upd_same]
            rcases hx with ⟨hv, hl⟩ | ⟨g, e', cap, css, post, hv, hg, hh, hr', hc, hs, hcm⟩
            · exact .inl ⟨hv, hl, trivial⟩
            · refine .inr ⟨g, e', cap, css, post, hv, by simpa using hh, hr'.mono fun y cs hy => R_mono A hy, hc, by rw [if_pos trivial]; exact ⟨rfl, hs, hcm⟩⟩
          · have hb := he.resolve_left hed
            unfold MR
            rw [hgone e hb]; trivial)
      refine wp_value hr ?_
      rw [hdst]
      refine ⟨⟨upd G.β d x, upd G.π d ([], [])⟩, _, ?_, h⟩
      rw [put_set, hls]
      exact E2.put (some d) (fun _ h => by cases h; exact hd d hdst) (v := .row d) (x := x) (by simp only [AR]; rw [hmd]; exact hβd.symm)
  | .upd d b, ok, h => by
    simp only [runRes, MBforce_eq] at h
    obtain ⟨w', hr, hn⟩ := ok
    obtain ⟨E', A, hown, _⟩ := E.newAt hn
    rw [set_eq] at E'
    rw [put_set] at h
    exact wp_skip' hr ⟨G, _, E'.put o.dst hd (v := .dead) trivial, h⟩
end Go.Proofs.Yteidggfjcanbjaa.E
