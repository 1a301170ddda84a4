/- Code: what the evaluator says of it, it does. -/
import Derived.Test.YteidggfjcanbjaaQClockMoreS17
import Derived.LoopN
import Derived.Scope
namespace Go.Proofs.Yteidggfjcanbjaa.E
open Go Go.RowKit
set_option linter.unusedVariables false
set_option linter.unusedSimpArgs false

variable {P : Program} {X : Nat → Prop} {F : Root} {w0 : World} {n : Nat} {G : Gh} {st : St} {a : Act} {w : World} {o : Oper}

def dstsB (n : Nat) : List Oper → Bool
  | [] => true
  | o :: r => (match o.dst with | some d => Nat.blt d n | none => true) && dstsB n r
theorem dstsB_spec {n : Nat} : ∀ {l : List Oper}, dstsB n l = true → ∀ o ∈ l, ∀ d, o.dst = some d → d < n
  | [], _, o, ho, _, _ => by cases ho
  | q :: r, h, o, ho, d, hd => by
    simp only [dstsB, Bool.and_eq_true] at h
    rcases List.mem_cons.1 ho with rfl | ho
    · rw [hd] at h; simpa [Nat.blt_eq] using h.1
    · exact dstsB_spec h.2 o ho d hd
/-- What is asked of a function's code ahead of any run: places, and orders that may be drawn. -/
def goodC (n : Nat) : Code → Bool
  | .region _ ops dr => dstsB n ops.toList && (!dr || lexL ops ops.size 0 (Array.replicate ops.size false))
  | .seq a b => goodC n a && goodC n b
  | .cond _ a b => goodC n a && goodC n b
  | .block _ a => goodC n a
  | .loop a => goodC n a
  | .scope a => goodC n a
  | _ => true
def Leads (X : Nat → Prop) (F : Root) (w0 : World) (n : Nat) {ρ : Type} (Q : Kont ρ) (r : ρ) (R : Exit → Act → World → Prop) : Prop :=
  ∀ G st a w, EnvR X F w0 n G st a w → (Q .normal st r → R .normal a w) ∧ (∀ i, Q (.exit i) st r → R (.exit i) a w) ∧ (Q .ret st r → R .ret a w)
theorem ev_AR (E : EnvR X F w0 n G st a w) (x : Operand) : AR w (Own X G.β st.m) G.β st.m (st.ev x) (a.eval x) := by
  cases x with
  | tmp t => exact E.slots t
  | const v => exact ofValue_AR v
  | global g => rfl
  | func f => trivial
theorem code_ok {Γ : Ctx} (H : Home P Γ X F w0) (hm : P.follows .mixedOrders = true) {A : Live} : ∀ (c : Code), goodC n c = true → ∀ {ρ : Type} {Q : Kont ρ} {R : Exit → Act → World → Prop} {r : ρ} {G : Gh} {st : St} {a : Act} {w : World},
    Leads X F w0 n Q r R → EnvR X F w0 n G st a w → evCode Γ A c st Q r → c.wp P R a w := by
  intro c
  induction c with
  | skip => intro _ ρ Q R r G st a w hR E h; exact wp_skip ((hR G st a w E).1 h)
  | region id ops dr =>
    intro hg ρ Q R r G st a w hR E h
    simp only [goodC, Bool.and_eq_true, Bool.or_eq_true, Bool.not_eq_true'] at hg
    have hn := dstsB_spec hg.1
    cases dr
    · exact region_ok H hn (fun G st a w E h => (hR G st a w E).1 h) E h
    · exact draw_ok H hm hn (hg.2.resolve_left (by simp)) (fun G st a w E h => (hR G st a w E).1 h) E h
  | seq x y ihx ihy =>
    intro hg ρ Q R r G st a w hR E h
    simp only [goodC, Bool.and_eq_true] at hg
    refine wp_seq ?_
    simp only [evCode] at h
    cases hA : A (2 * headId y + 1) with
    | none =>
      rw [hA] at h
      refine ihx hg.1 (Q := Kont.thn (fun st' => evCode Γ A y st' Q) Q) (R := Exit.then (y.wp P R) R) (fun G' st' a' w' E' => ⟨fun h' => ihy hg.2 hR E' h', fun i h' => (hR _ _ _ _ E').2.1 i h', fun h' => (hR _ _ _ _ E').2.2 h'⟩) E h
    | some l =>
      rw [hA] at h
      refine ihx hg.1 (Q := Kont.thn (fun st' => catch_ l st' (joinM fun x => evCode Γ A y (restore l x st0) Q)) Q) (R := Exit.then (y.wp P R) R) (fun G' st' a' w' E' => ⟨fun h' => ?_, fun i h' => (hR _ _ _ _ E').2.1 i h', fun h' => (hR _ _ _ _ E').2.2 h'⟩) E h
      obtain ⟨x', G'', hx', E''⟩ := catch_ok E' h'
      exact ihy hg.2 hR E'' hx'
  | cond c x y ihx ihy =>
    intro hg ρ Q R r G st a w hR E h
    simp only [goodC, Bool.and_eq_true] at hg
    have hc := ev_AR E c
    simp only [evCode] at h
    cases hv : st.ev c <;> rw [hv] at h hc <;> (try simp only at h) <;> first | (exact h.elim) | skip
    · rename_i ty b
      cases ty <;> (try simp only at h) <;> first | (exact h.elim) | skip
      have hb := VR_bool hc
      obtain ⟨b, rfl⟩ : ∃ b' : Bool, b' = b := ⟨b, rfl⟩
      cases b
      · rw [if_neg (by simp)] at h
        exact wp_cond_false hb (ihy hg.2 hR E h)
      · rw [if_pos rfl] at h
        exact wp_cond_true hb (ihx hg.1 hR E h)
    · rename_i p d
      simp only [AR] at hc
      by_cases hp : p
      · rw [if_pos hp] at h
        exact wp_cond_true (by rw [hc, decide_eq_true hp]) (ihx hg.1 hR E h)
      · rw [if_neg hp] at h
        exact wp_cond_false (by rw [hc, decide_eq_false hp]) (ihy hg.2 hR E h)
    · rename_i p
      obtain ⟨b, hb, hbp⟩ := hc
      obtain ⟨h1, h2⟩ := h
      cases b
      · exact wp_cond_false hb (ihy hg.2 hR E h2)
      · exact wp_cond_true hb (ihx hg.1 hR E (h1 (hbp rfl)))
  | block id x ih =>
    intro hg ρ Q R r G st a w hR E h
    refine wp_block (ih hg (Q := Kont.blk id Q) (R := Exit.inBlock id R) (fun G' st' a' w' E' => ⟨fun h' => (hR _ _ _ _ E').1 h', fun i h' => ?_, fun h' => (hR _ _ _ _ E').2.2 h'⟩) E h)
    have h' : (bif Nat.beq i id then Q .normal st' else Q (.exit i) st') r := h'
    show if i = id then R .normal a' w' else R (.exit i) a' w'
    cases hb : Nat.beq i id with
    | true =>
      rw [hb] at h'
      rw [if_pos (Nat.eq_of_beq_eq_true hb)]
      exact (hR _ _ _ _ E').1 h'
    | false =>
      rw [hb] at h'
      have hne : i ≠ id := fun e => by subst e; rw [Nat.beq_refl] at hb; cases hb
      rw [if_neg hne]
      exact (hR _ _ _ _ E').2.1 i h'
  | loop x ih =>
    intro hg ρ Q R r G st a w hR E h
    simp only [evCode] at h
    cases hA : A (2 * headId x) with
    | none => rw [hA] at h; exact h.elim
    | some l =>
      rw [hA] at h
      simp only at h
      obtain ⟨x0, G0, ⟨k, hk⟩, E0⟩ := catch_ok E h
      refine wp_loop_rounds k ?_
      have key : ∀ (k : Nat) (x0 : (liveTy l).D) (G0 : Gh) (a : Act) (w : World), EnvR X F w0 n G0 (restore l x0 st0) a w →
          iterM (fun rec x' => evCode Γ A x (restore l x' st0) (Kont.thn (fun st' => catch_ l st' rec) Q)) k x0 r → Code.rounds P x R k a w := by
        intro k
        induction k with
        | zero => intro x0 G0 a w _ hk; exact hk.elim
        | succ k ihk =>
          intro x0 G0 a w E0 hk
          rw [rounds_succ]
          refine ih hg (Q := Kont.thn (fun st' => catch_ l st' (iterM (fun rec x' => evCode Γ A x (restore l x' st0) (Kont.thn (fun st' => catch_ l st' rec) Q)) k)) Q) (R := Exit.then (Code.rounds P x R k) R) (fun G' st' a' w' E' => ⟨fun h' => ?_, fun i h' => (hR _ _ _ _ E').2.1 i h', fun h' => (hR _ _ _ _ E').2.2 h'⟩) E0 hk
          obtain ⟨x1, G1, h1, E1⟩ := catch_ok E' h'
          exact ihk x1 G1 a' w' E1 h1
      exact key k x0 G0 a w E0 hk
  | scope x ih =>
    intro hg ρ Q R r G st a w hR E h
    exact wp_scope_straight (ih hg (R := Exit.noGoto R) (fun G' st' a' w' E' => ⟨fun h' => (hR _ _ _ _ E').1 h', fun i h' => (hR _ _ _ _ E').2.1 i h', fun h' => (hR _ _ _ _ E').2.2 h'⟩) E h)
  | exit id => intro _ ρ Q R r G st a w hR E h; exact wp_exit ((hR G st a w E).2.1 id h)
  | ret => intro _ ρ Q R r G st a w hR E h; exact wp_ret ((hR G st a w E).2.2 h)
  | _ => intros; rename_i h; exact h.elim
end Go.Proofs.Yteidggfjcanbjaa.E
