/- A loop is one round and then the loop: the evaluator is monotone, and takes unions of chains. -/
import Derived.Test.YteidggfjcanbjaaQClockMoreS20
namespace Go.Proofs.Yteidggfjcanbjaa.E
open Go Go.RowKit
set_option linter.unusedVariables false
set_option linter.unusedSimpArgs false

variable {Γ : Ctx} {A : Live} {ρ : Type}

/-- An operation goes on with one state. -/
theorem step_one {dr : Bool} {all : List Oper} {t : Bool} {o : Oper} {st : St} {K : St → M ρ} {r : ρ} (h : stepE Γ dr all t o st K r) : ∃ st', K st' r ∧ ∀ {ρ' : Type} {K' : St → M ρ'} {r' : ρ'}, K' st' r' → stepE Γ dr all t o st K' r' := by
  have hres : ∀ res : Res, runRes o.dst st K res r → ∃ st', K st' r ∧ ∀ {ρ' : Type} {K' : St → M ρ'} {r' : ρ'}, K' st' r' → runRes o.dst st K' res r' := by
    intro res
    induction res with
    | fail => exact fun h => h.elim
    | put v => simp only [runRes, force_eq]; exact fun h => ⟨_, h, fun h => h⟩
    | ite p d res ih =>
      simp only [runRes]
      by_cases hp : p
      · simp only [if_pos hp]; exact ih
      · rw [if_neg hp]; exact fun h => h.elim
    | call res tup m kill => simp only [runRes]; exact fun ⟨y, hy, hk⟩ => ⟨_, hk, fun h => ⟨y, hy, h⟩⟩
    | callOwn ty m =>
      simp only [runRes]
      cases hd : o.dst with
      | none => exact fun h => h.elim
      | some d =>
        simp only
        cases hm : st.m d <;> first | exact fun h => h.elim | skip
        exact fun ⟨y, hy, hk⟩ => ⟨_, hk, fun h => ⟨y, hy, h⟩⟩
    | callRow ty res m d app f => simp only [runRes]; exact fun ⟨y, hy, hk⟩ => ⟨_, hk, fun h => ⟨y, hy, h⟩⟩
    | callBox ty res m d off l => simp only [runRes, forceL_eq]; exact fun ⟨y, hy, hk⟩ => ⟨_, hk, fun h => ⟨y, hy, h⟩⟩
    | alloc isP b =>
      simp only [runRes]
      cases hd : o.dst with
      | none => exact fun h => h.elim
      | some d =>
        simp only
        cases hm : st.m d <;> first | exact fun h => h.elim | skip
        simp only [MBforce_eq]
        cases isP <;> exact fun h => ⟨_, h, fun h => h⟩
    | app base ty l kill =>
      simp only [runRes]
      cases hd : o.dst with
      | none => exact fun h => h.elim
      | some d =>
        simp only
        cases hm : st.m d <;> first | exact fun h => h.elim | skip
        exact fun h => ⟨_, h, fun h => h⟩
    | upd d b => simp only [runRes, MBforce_eq]; exact fun h => ⟨_, h, fun h => h⟩
  have hrun : ∀ res : Res, runE t o.dst st K res r → ∃ st', K st' r ∧ ∀ {ρ' : Type} {K' : St → M ρ'} {r' : ρ'}, K' st' r' → runE t o.dst st K' res r' := by
    intro res
    cases t
    · exact hres res
    · intro h
      obtain ⟨u, hu, hk⟩ := outT_run.1 h
      exact ⟨_, hk, fun h => outT_run.2 ⟨u, hu, h⟩⟩
  unfold stepE at h ⊢
  cases hg : o.guard with
  | none => rw [hg] at h; exact hrun _ h
  | some g =>
    rw [hg] at h
    simp only at h ⊢
    cases hd : nthDst all g.1 with
    | none => rw [hd] at h; exact h.elim
    | some d =>
      rw [hd] at h
      simp only at h ⊢
      cases hs : st.s d with
      | t ty b =>
        rw [hs] at h
        cases ty <;> first | exact h.elim | skip
        simp only at h ⊢
        cases hb : b == g.2 with
        | true => rw [hb] at h; exact hrun _ h
        | false => rw [hb] at h; exact ⟨_, h, fun h => h⟩
      | undef => rw [hs] at h; exact ⟨_, h, fun h => h⟩
      | _ => rw [hs] at h; exact h.elim
theorem ops_one {dr : Bool} {all : List Oper} {K : St → M ρ} {r : ρ} : ∀ (rest : List Oper) (k : Nat) (st : St), evOps Γ dr all K rest k st r → ∃ st', K st' r ∧ ∀ {K' : St → M ρ} {r' : ρ}, K' st' r' → evOps Γ dr all K' rest k st r'
  | [], k, st, h => ⟨st, h, fun h => h⟩
  | o :: rest, k, st, h => by
    rw [evOps_cons] at h
    cases hc : (dr && !loud o && !(isExt o || sepAll st.s k o rest rest)) with
    | true => rw [hc] at h; exact h.elim
    | false =>
      rw [hc] at h
      obtain ⟨s1, h1, h2⟩ := step_one h
      obtain ⟨s2, h3, h4⟩ := ops_one rest (k + 1) s1 h1
      refine ⟨s2, h3, fun h => ?_⟩
      rw [evOps_cons, hc]
      exact h2 (h4 h)
theorem catch_one {l : List (Nat × LK)} {st : St} {K : (liveTy l).D → M ρ} {r : ρ} (h : catch_ l st K r) : ∃ x, K x r ∧ ∀ {K' : (liveTy l).D → M ρ} {r' : ρ}, K' x r' → catch_ l st K' r' := by
  unfold catch_ at h ⊢
  cases hb : (apartB (metVal st l) (metRow st l) && nodupB l) with
  | false => rw [hb] at h; exact h.elim
  | true =>
    rw [hb] at h
    simp only at h ⊢
    cases hx : capture st l with
    | none => rw [hx] at h; exact h.elim
    | some x => rw [hx] at h; exact ⟨x, h, fun h => h⟩
def KLe (r : ρ) (Q Q' : Kont ρ) : Prop := ∀ e st, Q e st r → Q' e st r
theorem thn_le {r : ρ} {Q Q' : Kont ρ} {n n' : St → M ρ} (h : KLe r Q Q') (hn : ∀ st, n st r → n' st r) : KLe r (Kont.thn n Q) (Kont.thn n' Q') := by
  intro e st
  cases e with
  | normal => exact hn st
  | exit i => exact h (.exit i) st
  | ret => exact h .ret st
theorem blk_le {r : ρ} {Q Q' : Kont ρ} {id : Nat} (h : KLe r Q Q') : KLe r (Kont.blk id Q) (Kont.blk id Q') := by
  intro e st
  cases e with
  | normal => exact h .normal st
  | exit i =>
    show (bif Nat.beq i id then Q .normal st else Q (.exit i) st) r → (bif Nat.beq i id then Q' .normal st else Q' (.exit i) st) r
    cases Nat.beq i id
    · exact h (.exit i) st
    · exact h .normal st
  | ret => exact h .ret st
end Go.Proofs.Yteidggfjcanbjaa.E
