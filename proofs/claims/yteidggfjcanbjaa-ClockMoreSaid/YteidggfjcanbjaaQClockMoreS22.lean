/- A loop is one round and then the loop. -/
import Derived.Test.YteidggfjcanbjaaQClockMoreS21
namespace Go.Proofs.Yteidggfjcanbjaa.E
open Go Go.RowKit
set_option linter.unusedVariables false
set_option linter.unusedSimpArgs false

variable {Γ : Ctx} {A : Live} {ρ : Type}

theorem iter_mono {α : Type} {F F' : (α → M ρ) → α → M ρ} {r : ρ} (h : ∀ (p p' : α → M ρ), (∀ x, p x r → p' x r) → ∀ x, F p x r → F' p' x r) : ∀ (k : Nat) (x : α), iterM F k x r → iterM F' k x r
  | 0, _, hh => hh
  | k + 1, x, hh => h _ _ (fun x => iter_mono h k x) x hh
theorem iter_succ {α : Type} {F : (α → M ρ) → α → M ρ} {r : ρ} (h : ∀ (p p' : α → M ρ), (∀ x, p x r → p' x r) → ∀ x, F p x r → F p' x r) : ∀ (k : Nat) (x : α), iterM F k x r → iterM F (k + 1) x r
  | 0, _, hh => hh.elim
  | k + 1, x, hh => h _ _ (fun x => iter_succ h k x) x hh
theorem code_mono {r : ρ} : ∀ (c : Code) (st : St) {Q Q' : Kont ρ}, KLe r Q Q' → evCode Γ A c st Q r → evCode Γ A c st Q' r := by
  intro c
  induction c with
  | skip => intro st Q Q' h hh; exact h _ _ hh
  | region id ops dr =>
    intro st Q Q' h hh
    obtain ⟨s, h1, h2⟩ := ops_one _ _ _ hh
    exact h2 (h .normal s h1)
  | seq x y ihx ihy =>
    intro st Q Q' h hh
    simp only [evCode] at hh ⊢
    cases hA : A (2 * headId y + 1) with
    | none =>
      rw [hA] at hh
      exact ihx st (thn_le h fun st' => ihy st' h) hh
    | some l =>
      rw [hA] at hh
      refine ihx st (thn_le h fun st' h1 => ?_) hh
      obtain ⟨x', h2, h3⟩ := catch_one h1
      exact h3 (ihy _ h h2)
  | cond c x y ihx ihy =>
    intro st Q Q' h hh
    simp only [evCode] at hh ⊢
    cases hv : st.ev c <;> rw [hv] at hh <;> (try simp only at hh ⊢) <;> first | (exact hh.elim) | skip
    · rename_i ty b
      cases ty <;> (try simp only at hh ⊢) <;> first | (exact hh.elim) | skip
      obtain ⟨b, rfl⟩ : ∃ b' : Bool, b' = b := ⟨b, rfl⟩
      cases b
      · rw [if_neg (by simp)] at hh ⊢; exact ihy st h hh
      · rw [if_pos rfl] at hh ⊢; exact ihx st h hh
    · rename_i p d
      by_cases hp : p
      · rw [if_pos hp] at hh ⊢; exact ihx st h hh
      · rw [if_neg hp] at hh ⊢; exact ihy st h hh
    · exact ⟨fun hp => ihx st h (hh.1 hp), ihy st h hh.2⟩
  | block id x ih => intro st Q Q' h hh; exact ih st (blk_le h) hh
  | loop x ih =>
    intro st Q Q' h hh
    simp only [evCode] at hh ⊢
    cases hA : A (2 * headId x) with
    | none => rw [hA] at hh; exact hh.elim
    | some l =>
      rw [hA] at hh
      simp only at hh ⊢
      obtain ⟨x0, ⟨k, h1⟩, h2⟩ := catch_one hh
      refine h2 ⟨k, iter_mono (fun p p' hp y hy => ?_) k x0 h1⟩
      refine ih _ (thn_le h fun st' h3 => ?_) hy
      obtain ⟨z, h4, h5⟩ := catch_one h3
      exact h5 (hp z h4)
  | scope x ih => intro st Q Q' h hh; exact ih st h hh
  | exit id => intro st Q Q' h hh; exact h _ _ hh
  | ret => intro st Q Q' h hh; exact h _ _ hh
  | _ => intros; rename_i hh; exact hh.elim
theorem chain_le {r : ρ} {Q : Nat → Kont ρ} (h : ∀ n, KLe r (Q n) (Q (n + 1))) : ∀ (n m : Nat), n ≤ m → KLe r (Q n) (Q m) := by
  intro n m hnm
  induction m with
  | zero => obtain rfl : n = 0 := by omega
            exact fun _ _ h => h
  | succ m ih =>
    by_cases e : n = m + 1
    · subst e; exact fun _ _ h => h
    · exact fun ex st hh => h m ex st (ih (by omega) ex st hh)
theorem code_chain {r : ρ} : ∀ (c : Code) (st : St) {Q : Nat → Kont ρ} {Q' : Kont ρ}, (∀ n, KLe r (Q n) (Q (n + 1))) → (∀ e st, Q' e st r → ∃ n, Q n e st r) → evCode Γ A c st Q' r → ∃ n, evCode Γ A c st (Q n) r := by
  intro c
  have thn_ch : ∀ {Q : Nat → Kont ρ} {Q' : Kont ρ} {m : Nat → St → M ρ} {m' : St → M ρ}, (∀ e st, Q' e st r → ∃ n, Q n e st r) → (∀ st, m' st r → ∃ n, m n st r) → ∀ e st, Kont.thn m' Q' e st r → ∃ n, Kont.thn (m n) (Q n) e st r := by
    intro Q Q' m m' h1 h2 e st
    cases e with
    | normal => exact h2 st
    | exit i => exact h1 (.exit i) st
    | ret => exact h1 .ret st
  induction c with
  | skip => intro st Q Q' h1 h2 hh; exact h2 _ _ hh
  | region id ops dr =>
    intro st Q Q' h1 h2 hh
    obtain ⟨s, q1, q2⟩ := ops_one _ _ _ hh
    obtain ⟨n, hn⟩ := h2 .normal s q1
    exact ⟨n, q2 hn⟩
  | seq x y ihx ihy =>
    intro st Q Q' h1 h2 hh
    simp only [evCode] at hh ⊢
    cases hA : A (2 * headId y + 1) with
    | none =>
      rw [hA] at hh
      exact ihx st (Q := fun n => Kont.thn (fun st' => evCode Γ A y st' (Q n)) (Q n)) (fun n => thn_le (h1 n) fun st' => code_mono y st' (h1 n)) (thn_ch h2 fun st' => ihy st' h1 h2) hh
    | some l =>
      rw [hA] at hh
      refine ihx st (Q := fun n => Kont.thn (fun st' => catch_ l st' (joinM fun x => evCode Γ A y (restore l x st0) (Q n))) (Q n)) (fun n => thn_le (h1 n) fun st' h3 => ?_) (thn_ch h2 fun st' h3 => ?_) hh
      · obtain ⟨x', q1, q2⟩ := catch_one h3
        exact q2 (code_mono y _ (h1 n) q1)
      · obtain ⟨x', q1, q2⟩ := catch_one h3
        obtain ⟨n, hn⟩ := ihy _ h1 h2 q1
        exact ⟨n, q2 hn⟩
  | cond c x y ihx ihy =>
    intro st Q Q' h1 h2 hh
    simp only [evCode] at hh ⊢
    cases hv : st.ev c <;> rw [hv] at hh <;> (try simp only at hh ⊢) <;> first | (exact hh.elim) | skip
    · rename_i ty b
      cases ty <;> (try simp only at hh ⊢) <;> first | (exact hh.elim) | skip
      obtain ⟨b, rfl⟩ : ∃ b' : Bool, b' = b := ⟨b, rfl⟩
      cases b
      · rw [if_neg (by simp)] at hh
        obtain ⟨n, hn⟩ := ihy st h1 h2 hh
        exact ⟨n, by rw [if_neg (by simp)]; exact hn⟩
      · rw [if_pos rfl] at hh
        obtain ⟨n, hn⟩ := ihx st h1 h2 hh
        exact ⟨n, by rw [if_pos rfl]; exact hn⟩
    · rename_i p d
      by_cases hp : p
      · rw [if_pos hp] at hh
        obtain ⟨n, hn⟩ := ihx st h1 h2 hh
        exact ⟨n, by rw [if_pos hp]; exact hn⟩
      · rw [if_neg hp] at hh
        obtain ⟨n, hn⟩ := ihy st h1 h2 hh
        exact ⟨n, by rw [if_neg hp]; exact hn⟩
    · rename_i p
      obtain ⟨n, hn⟩ := ihy st h1 h2 hh.2
      by_cases hp : p
      · obtain ⟨m, hm⟩ := ihx st h1 h2 (hh.1 hp)
        exact ⟨max n m, fun _ => code_mono x st (chain_le h1 m _ (Nat.le_max_right _ _)) hm, code_mono y st (chain_le h1 n _ (Nat.le_max_left _ _)) hn⟩
      · exact ⟨n, fun h => absurd h hp, hn⟩
  | block id x ih =>
    intro st Q Q' h1 h2 hh
    refine ih st (Q := fun n => Kont.blk id (Q n)) (fun n => blk_le (h1 n)) (fun e st' h3 => ?_) hh
    cases e with
    | normal => exact h2 .normal st' h3
    | exit i =>
      have h3 : (bif Nat.beq i id then Q' .normal st' else Q' (.exit i) st') r := h3
      show ∃ n, (bif Nat.beq i id then Q n .normal st' else Q n (.exit i) st') r
      cases hb : Nat.beq i id with
      | true => rw [hb] at h3; exact h2 .normal st' h3
      | false => rw [hb] at h3; exact h2 (.exit i) st' h3
    | ret => exact h2 .ret st' h3
  | loop x ih =>
    intro st Q Q' h1 h2 hh
    simp only [evCode] at hh ⊢
    cases hA : A (2 * headId x) with
    | none => rw [hA] at hh; exact hh.elim
    | some l =>
      rw [hA] at hh
      simp only at hh ⊢
      obtain ⟨x0, ⟨k, q1⟩, q2⟩ := catch_one hh
      have Fm : ∀ n (p p' : (liveTy l).D → M ρ), (∀ x, p x r → p' x r) → ∀ y, evCode Γ A x (restore l y st0) (Kont.thn (fun st' => catch_ l st' p) (Q n)) r → evCode Γ A x (restore l y st0) (Kont.thn (fun st' => catch_ l st' p') (Q (n + 1))) r := by
        intro n p p' hp y hy
        refine code_mono x _ (thn_le (h1 n) fun st' h3 => ?_) hy
        obtain ⟨z, h4, h5⟩ := catch_one h3
        exact h5 (hp z h4)
      have key : ∀ (k : Nat) (y : (liveTy l).D), iterM (fun rec y => evCode Γ A x (restore l y st0) (Kont.thn (fun st' => catch_ l st' rec) Q')) k y r → ∃ n, iterM (fun rec y => evCode Γ A x (restore l y st0) (Kont.thn (fun st' => catch_ l st' rec) (Q n))) k y r := by
        intro k
        induction k with
        | zero => exact fun y h => h.elim
        | succ k ihk =>
          intro y hy
          refine ih _ (Q := fun n => Kont.thn (fun st' => catch_ l st' (iterM (fun rec y => evCode Γ A x (restore l y st0) (Kont.thn (fun st' => catch_ l st' rec) (Q n))) k)) (Q n)) (fun n => thn_le (h1 n) fun st' h3 => ?_) (thn_ch h2 fun st' h3 => ?_) hy
          · obtain ⟨z, h4, h5⟩ := catch_one h3
            exact h5 (iter_mono (fun p p' hp y hy => Fm n p p' hp y hy) k z h4)
          · obtain ⟨z, h4, h5⟩ := catch_one h3
            obtain ⟨n, hn⟩ := ihk z h4
            exact ⟨n, h5 hn⟩
      obtain ⟨n, hn⟩ := key k x0 q1
      exact ⟨n, q2 ⟨k, hn⟩⟩
  | scope x ih => intro st Q Q' h1 h2 hh; exact ih st h1 h2 hh
  | exit id => intro st Q Q' h1 h2 hh; exact h2 _ _ hh
  | ret => intro st Q Q' h1 h2 hh; exact h2 _ _ hh
  | _ => intros; rename_i hh; exact hh.elim
/-- One round, then the loop: that is the loop. -/
theorem loop_step {l : List (Nat × LK)} {cq : Code × Kont ρ} {x : (liveTy l).D} {r : ρ} (h : roundOf Γ A l cq (loopOf Γ A l cq) x r) : loopOf Γ A l cq x r := by
  obtain ⟨c, Q⟩ := cq
  unfold roundOf loopOf at h
  unfold loopOf
  cases c <;> simp only at h ⊢ <;> first | exact h.elim | skip
  rename_i a
  have Fm : ∀ (p p' : (liveTy l).D → M ρ), (∀ x, p x r → p' x r) → ∀ y, evCode Γ A a (restore l y st0) (Kont.thn (fun st' => catch_ l st' p) Q) r → evCode Γ A a (restore l y st0) (Kont.thn (fun st' => catch_ l st' p') Q) r := by
    intro p p' hp y hy
    refine code_mono a _ (thn_le (fun _ _ h => h) fun st' h3 => ?_) hy
    obtain ⟨z, h4, h5⟩ := catch_one h3
    exact h5 (hp z h4)
  obtain ⟨n, hn⟩ := code_chain a (restore l x st0) (Q := fun n => Kont.thn (fun st' => catch_ l st' (iterM (fun rec x => evCode Γ A a (restore l x st0) (Kont.thn (fun st' => catch_ l st' rec) Q)) n)) Q)
    (fun n => thn_le (fun _ _ h => h) fun st' h3 => by
      obtain ⟨z, h4, h5⟩ := catch_one h3
      exact h5 (iter_succ Fm n z h4))
    (fun e st' h3 => by
      cases e with
      | normal =>
        obtain ⟨z, ⟨n, h4⟩, h5⟩ := catch_one h3
        exact ⟨n, h5 h4⟩
      | exit i => exact ⟨0, h3⟩
      | ret => exact ⟨0, h3⟩) h
  exact ⟨n + 1, hn⟩
end Go.Proofs.Yteidggfjcanbjaa.E
