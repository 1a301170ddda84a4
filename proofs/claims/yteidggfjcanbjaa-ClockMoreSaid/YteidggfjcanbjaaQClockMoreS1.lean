/- What the evaluator's values have to do with the model's: the relation, and what keeps it. -/
import Derived.Test.YteidggfjcanbjaaQClockMoreE0
import Derived.Below
import Derived.Orders
namespace Go.Proofs.Yteidggfjcanbjaa.E
open Go Go.RowKit
set_option linter.unusedVariables false
set_option linter.unusedSimpArgs false

def All2 {α β : Type} (P : α → β → Prop) : List α → List β → Prop
  | [], [] => True
  | a :: l, b :: m => P a b ∧ All2 P l m
  | _, _ => False
theorem All2.mono {α β : Type} {P Q : α → β → Prop} : ∀ {l : List α} {m : List β}, All2 P l m → (∀ a b, P a b → Q a b) → All2 Q l m
  | [], [], _, _ => trivial
  | a :: l, b :: m, ⟨h, r⟩, k => ⟨k a b h, All2.mono r k⟩
theorem All2.length {α β : Type} {P : α → β → Prop} : ∀ {l : List α} {m : List β}, All2 P l m → l.length = m.length
  | [], [], _ => rfl
  | a :: l, b :: m, ⟨_, r⟩ => by simp [All2.length r]
theorem All2.get {α β : Type} {P : α → β → Prop} : ∀ {l : List α} {m : List β} (i : Nat) {a : α}, All2 P l m → l[i]? = some a → ∃ b, m[i]? = some b ∧ P a b
  | x :: l, y :: m, 0, a, ⟨h, _⟩, e => by simp at e; subst e; exact ⟨y, rfl, h⟩
  | x :: l, y :: m, i + 1, a, ⟨_, r⟩, e => by simpa using All2.get i r (by simpa using e)
theorem All2.set {α β : Type} {P : α → β → Prop} : ∀ {l : List α} {m : List β} (i : Nat) {a : α} {b : β}, All2 P l m → P a b → All2 P (l.set i a) (m.set i b)
  | [], [], _, _, _, _, _ => trivial
  | x :: l, y :: m, 0, a, b, ⟨_, r⟩, h => ⟨h, r⟩
  | x :: l, y :: m, i + 1, a, b, ⟨h', r⟩, h => ⟨h', All2.set i r h⟩
theorem All2.append {α β : Type} {P : α → β → Prop} : ∀ {l l' : List α} {m m' : List β}, All2 P l m → All2 P l' m' → All2 P (l ++ l') (m ++ m')
  | [], _, [], _, _, h => h
  | x :: l, _, y :: m, _, ⟨h, r⟩, h' => ⟨h, All2.append r h'⟩
theorem All2.take {α β : Type} {P : α → β → Prop} : ∀ {l : List α} {m : List β} (n : Nat), All2 P l m → All2 P (l.take n) (m.take n)
  | _, _, 0, _ => trivial
  | [], [], _ + 1, _ => trivial
  | x :: l, y :: m, n + 1, ⟨h, r⟩ => ⟨h, All2.take n r⟩
theorem All2.drop {α β : Type} {P : α → β → Prop} : ∀ {l : List α} {m : List β} (n : Nat), All2 P l m → All2 P (l.drop n) (m.drop n)
  | _, _, 0, h => h
  | [], [], _ + 1, _ => trivial
  | x :: l, y :: m, n + 1, ⟨h, r⟩ => All2.drop n r

/-! ### Cells and plain values -/
def R (w : World) (own : Nat → Prop) : (ty : Ty) → ty.D → List Value → Prop
  | .int k, x, cs => cs = [.int k x]
  | .bool, b, cs => cs = [.bool b]
  | .str, s, cs => cs = [.string s]
  | .nil, _, cs => cs = [.slice none 0 0]
  | .any, _, cs => ∃ c, cs = [c] ∧ c.oneCell' = true
  | .lst t, l, cs => ∃ ao cap, cs = [.slice ao (List.length l) cap] ∧ List.length l ≤ cap ∧
      (l = [] ∨ ∃ a css, ao = some a ∧ ¬ own a.block ∧ All2 (R w own t) l css ∧ ∀ (j : Nat) (v : Value), css.flatten[j]? = some v → w.cell? (a.add j) = some v)
  | .pair a b, x, cs => ∃ c1 c2, cs = c1 ++ c2 ∧ R w own a x.1 c1 ∧ R w own b x.2 c2
  | .agg a, x, cs => R w own a x cs
theorem Ty.n_pos : ∀ t : Ty, 0 < t.n
  | .int _ | .bool | .str | .nil | .any | .lst _ => by simp [Ty.n]
  | .pair a b => by have := Ty.n_pos a; simp only [Ty.n]; omega
  | .agg a => by simpa only [Ty.n] using Ty.n_pos a
theorem R_len {w : World} {own : Nat → Prop} : ∀ {t : Ty} {x : t.D} {cs : List Value}, R w own t x cs → cs.length = t.n
  | .int _, _, _, h => by simp only [R] at h; subst h; rfl
  | .bool, _, _, h => by simp only [R] at h; subst h; rfl
  | .str, _, _, h => by simp only [R] at h; subst h; rfl
  | .nil, _, _, h => by simp only [R] at h; subst h; rfl
  | .any, _, _, h => by simp only [R] at h; obtain ⟨c, rfl, _⟩ := h; rfl
  | .lst _, _, _, h => by simp only [R] at h; obtain ⟨_, _, rfl, _⟩ := h; rfl
  | .pair a b, _, _, h => by simp only [R] at h; obtain ⟨c1, c2, rfl, h1, h2⟩ := h; simp [Ty.n, R_len h1, R_len h2]
  | .agg a, _, _, h => by simp only [R] at h; simpa only [Ty.n] using R_len h
theorem R_one {w : World} {own : Nat → Prop} : ∀ {t : Ty} {x : t.D} {cs : List Value}, R w own t x cs → ∀ c ∈ cs, c.oneCell' = true
  | .int _, _, _, h => by simp only [R] at h; subst h; simp [Value.oneCell']
  | .bool, _, _, h => by simp only [R] at h; subst h; simp [Value.oneCell']
  | .str, _, _, h => by simp only [R] at h; subst h; simp [Value.oneCell']
  | .nil, _, _, h => by simp only [R] at h; subst h; simp [Value.oneCell']
  | .any, _, _, h => by simp only [R] at h; obtain ⟨c, rfl, hc⟩ := h; simpa using hc
  | .lst _, _, _, h => by simp only [R] at h; obtain ⟨_, _, rfl, _⟩ := h; simp [Value.oneCell']
  | .pair a b, _, _, h => by
    simp only [R] at h; obtain ⟨c1, c2, rfl, h1, h2⟩ := h
    intro c hc
    rcases List.mem_append.1 hc with hc | hc
    · exact R_one h1 c hc
    · exact R_one h2 c hc
  | .agg a, _, _, h => by simp only [R] at h; exact R_one h
theorem flat_len {w : World} {own : Nat → Prop} {t : Ty} : ∀ {l : List t.D} {css : List (List Value)}, All2 (R w own t) l css → css.flatten.length = l.length * t.n
  | [], [], _ => by simp
  | x :: l, c :: css, ⟨h, r⟩ => by simp [flat_len r, R_len h, Nat.add_mul]; omega
theorem block_lt {w : World} {a : Addr} {v : Value} (h : w.cell? a = some v) : a.block < w.heap.size := World.block_lt_of_cell? w a h
theorem add_block (a : Addr) (n : Nat) : (a.add n).block = a.block := by unfold Addr.add; split <;> rfl
theorem cell_eq {w w' : World} {a : Addr} (h : w'.heap[a.block]? = w.heap[a.block]?) : w'.cell? a = w.cell? a := World.cell?_of_block h
/-- The worlds agree on what isn't owned; what is owned later on, of what was there, was owned. -/
structure Agree (w w' : World) (own own' : Nat → Prop) : Prop where
  heap : ∀ g, g < w.heap.size → ¬ own g → w'.heap[g]? = w.heap[g]?
  own : ∀ g, g < w.heap.size → own' g → own g
theorem R_mono {w w' : World} {own own' : Nat → Prop} (A : Agree w w' own own') : ∀ {t : Ty} {x : t.D} {cs : List Value}, R w own t x cs → R w' own' t x cs
  | .int _, _, _, h => h
  | .bool, _, _, h => h
  | .str, _, _, h => h
  | .nil, _, _, h => h
  | .any, _, _, h => h
  | .lst t, l, cs, h => by
    simp only [R] at h ⊢
    obtain ⟨ao, cap, rfl, hc, h⟩ := h
    refine ⟨ao, cap, rfl, hc, ?_⟩
    rcases h with h | ⟨a, css, ha, ho, hr, hcell⟩
    · exact .inl h
    · by_cases hl : l = []
      · exact .inl hl
      have hlen := flat_len hr
      have hpos : 0 < css.flatten.length := by
        rw [hlen]; exact Nat.mul_pos (List.length_pos_iff.2 hl) (Ty.n_pos t)
      have hlt : a.block < w.heap.size := by
        have := hcell 0 _ (List.getElem?_eq_getElem hpos)
        have h2 := block_lt this
        rwa [add_block] at h2
      refine .inr ⟨a, css, ha, fun k => ho (A.own _ hlt k), hr.mono fun _ _ => R_mono A, fun j v hj => ?_⟩
      rw [cell_eq (w := w) (by rw [add_block]; exact A.heap _ hlt ho)]
      exact hcell j v hj
  | .pair a b, x, cs, h => by
    simp only [R] at h ⊢
    obtain ⟨c1, c2, rfl, h1, h2⟩ := h
    exact ⟨c1, c2, rfl, R_mono A h1, R_mono A h2⟩
  | .agg a, x, cs, h => by simp only [R] at h ⊢; exact R_mono A h

/-- A value as a plain type's. -/
def VR (w : World) (own : Nat → Prop) (ty : Ty) (x : ty.D) (v : Value) : Prop :=
  R w own ty x v.cells.toList ∧ match ty with
    | .agg _ => ∃ cs, v = .agg cs
    | .pair _ _ => False
    | _ => v.oneCell' = true
theorem VR_mono {w w' : World} {own own' : Nat → Prop} (A : Agree w w' own own') {ty : Ty} {x : ty.D} {v : Value} (h : VR w own ty x v) : VR w' own' ty x v := ⟨R_mono A h.1, h.2⟩
def TupR (w : World) (own : Nat → Prop) : (ty : Ty) → ty.D → List Value → Prop
  | .nil, _, vs => vs = []
  | .pair a b, x, vs => ∃ v r, vs = v :: r ∧ VR w own a x.1 v ∧ TupR w own b x.2 r
  | t, x, vs => ∃ v, vs = [v] ∧ VR w own t x v
theorem TupR_mono {w w' : World} {own own' : Nat → Prop} (A : Agree w w' own own') : ∀ {ty : Ty} {x : ty.D} {vs : List Value}, TupR w own ty x vs → TupR w' own' ty x vs
  | .nil, _, _, h => h
  | .pair a b, _, _, h => by simp only [TupR] at h ⊢; obtain ⟨v, r, rfl, h1, h2⟩ := h; exact ⟨v, r, rfl, VR_mono A h1, TupR_mono A h2⟩
  | .int _, _, _, h => by simp only [TupR] at h ⊢; obtain ⟨v, rfl, h⟩ := h; exact ⟨v, rfl, VR_mono A h⟩
  | .bool, _, _, h => by simp only [TupR] at h ⊢; obtain ⟨v, rfl, h⟩ := h; exact ⟨v, rfl, VR_mono A h⟩
  | .str, _, _, h => by simp only [TupR] at h ⊢; obtain ⟨v, rfl, h⟩ := h; exact ⟨v, rfl, VR_mono A h⟩
  | .any, _, _, h => by simp only [TupR] at h ⊢; obtain ⟨v, rfl, h⟩ := h; exact ⟨v, rfl, VR_mono A h⟩
  | .lst _, _, _, h => by simp only [TupR] at h ⊢; obtain ⟨v, rfl, h⟩ := h; exact ⟨v, rfl, VR_mono A h⟩
  | .agg _, _, _, h => by simp only [TupR] at h ⊢; obtain ⟨v, rfl, h⟩ := h; exact ⟨v, rfl, VR_mono A h⟩

/-! ### What slots hold -/
/-- What the proof knows beside: each row's or box's head, and what stands in its block ahead of it and behind. -/
structure Gh where
  β : Nat → Value
  π : Nat → List Value × List Value
def headOf : Value → Option Addr
  | .slice a _ _ => a
  | .pointer a => a
  | _ => none
def AR (w : World) (own : Nat → Prop) (β : Nat → Value) (m : Nat → MB) : AV → Value → Prop
  | .dead, _ => True
  | .undef, v => v = undef
  | .t ty x, v => VR w own ty x v
  | .lit ty l, v => VR w own (.lst ty) l v ∧ ∃ a, v = .slice a (List.length l) (List.length l)
  | .tup ty x, v => ∃ vs : List Value, v = .tuple vs.toArray ∧ TupR w own ty x vs
  | .bp p d, v => v = .bool (@decide p d)
  | .nq p, v => ∃ b, v = .bool b ∧ (b = true → p)
  | .ptr d off, v => match m d with
    | .box _ => ∃ a, β d = .pointer (some a) ∧ a.spot = none ∧ v = .pointer (some (a.add off))
    | .none => False
    | .capd => False
    | _ => True
  | .row d, v => match m d with
    | .own _ _ _ => v = β d
    | .froz _ _ => v = β d
    | .none => False
    | .capd => False
    | _ => True
  | .view d off n, v => match m d with
    | .own _ ty l => off + n ≤ List.length l ∧ ∃ cap, n ≤ cap ∧ v = .slice ((headOf (β d)).map (·.add (off * ty.n))) n cap
    | .froz ty l => off + n ≤ List.length l ∧ ∃ cap, n ≤ cap ∧ v = .slice ((headOf (β d)).map (·.add (off * ty.n))) n cap
    | .none => False
    | .capd => False
    | _ => True
  | .elt d i, v => match m d with
    | .own _ ty l => i < List.length l ∧ ∃ a, headOf (β d) = some a ∧ v = .pointer (some (a.add (i * ty.n)))
    | .none => False
    | .capd => False
    | _ => True
  | .cell ty x, v => ∃ a cs, v = .pointer (some a) ∧ ¬ own a.block ∧ R w own ty x cs ∧ ∀ (j : Nat) (c : Value), cs[j]? = some c → w.cell? (a.add j) = some c
  | .glob g, v => v = .pointer (some ⟨g, 0, none⟩)
/-- What may become of a row or box, so that who holds on to it still does. -/
def Later (m m' : MB) : Prop := match m, m' with
  | .none, _ => True
  | .capd, _ => True
  | .gone, .none => False
  | .gone, .capd => False
  | .gone, .gone => True
  | .gone, _ => False
  | .box _, .box _ => True
  | .box _, .gone => True
  | .own _ ty l, .own _ ty' l' => ty = ty' ∧ List.length l = List.length l'
  | .own _ ty l, .froz ty' l' => ty = ty' ∧ List.length l = List.length l'
  | .own _ _ _, .gone => True
  | .froz ty l, .froz ty' l' => ty = ty' ∧ List.length l = List.length l'
  | .froz _ _, .gone => True
  | _, _ => False
theorem Later.refl (m : MB) : Later m m := by cases m <;> simp [Later]
def dead (m : MB) : Prop := match m with
  | .none => True
  | .capd => True
  | _ => False
theorem AR_mono {w w' : World} {own own' : Nat → Prop} {β β' : Nat → Value} {m m' : Nat → MB} (A : Agree w w' own own')
    (hβ : ∀ d, ¬ dead (m d) → β' d = β d) (hm : ∀ d, Later (m d) (m' d)) : ∀ {x : AV} {v : Value}, AR w own β m x v → AR w' own' β' m' x v
  | .dead, _, h => h
  | .undef, _, h => h
  | .t _ _, _, h => VR_mono A h
  | .lit _ _, _, h => ⟨VR_mono A h.1, h.2⟩
  | .tup _ _, _, h => by simp only [AR] at h ⊢; obtain ⟨vs, rfl, h⟩ := h; exact ⟨vs, rfl, TupR_mono A h⟩
  | .bp _ _, _, h => h
  | .nq _, _, h => h
  | .ptr d off, v, h => by
    have l := hm d; have b := hβ d
    simp only [AR] at h ⊢
    revert h l b; cases m d <;> cases m' d <;> simp +contextual [Later, dead]
  | .row d, v, h => by
    have l := hm d; have b := hβ d
    simp only [AR] at h ⊢
    revert h l b; cases m d <;> cases m' d <;> simp +contextual [Later, dead]
  | .view d off n, v, h => by
    have l := hm d; have b := hβ d
    simp only [AR] at h ⊢
    revert h l b
    cases m d <;> cases m' d <;> intro h l b <;> simp only [Later, dead] at l b h ⊢ <;> try trivial
    all_goals (obtain ⟨rfl, h5⟩ := l; obtain ⟨h1, cap, h2, h3⟩ := h; rw [b (fun h => h)]; exact ⟨by omega, cap, h2, h3⟩)
  | .elt d i, v, h => by
    have l := hm d; have b := hβ d
    simp only [AR] at h ⊢
    revert h l b
    cases m d <;> cases m' d <;> intro h l b <;> simp only [Later, dead] at l b h ⊢ <;> try trivial
    all_goals (obtain ⟨rfl, h5⟩ := l; obtain ⟨h1, a, h2, h3⟩ := h; rw [b (fun h => h)]; exact ⟨by omega, a, h2, h3⟩)
  | .cell ty x, v, h => by
    simp only [AR] at h ⊢
    obtain ⟨a, cs, rfl, ho, hr, hc⟩ := h
    have hpos : 0 < cs.length := by rw [R_len hr]; exact Ty.n_pos ty
    have hlt : a.block < w.heap.size := by
      have h2 := block_lt (hc 0 _ (List.getElem?_eq_getElem hpos)); rwa [add_block] at h2
    refine ⟨a, cs, rfl, fun k => ho (A.own _ hlt k), R_mono A hr, fun j c hj => ?_⟩
    rw [cell_eq (w := w) (by rw [add_block]; exact A.heap _ hlt ho)]
    exact hc j c hj
  | .glob _, _, h => h
end Go.Proofs.Yteidggfjcanbjaa.E
