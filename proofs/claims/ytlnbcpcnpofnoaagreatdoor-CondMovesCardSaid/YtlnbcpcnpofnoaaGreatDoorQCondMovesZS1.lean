/- What the evaluator's values have to do with the model's: the relation, and what keeps it. -/
import Derived.Test.YtlnbcpcnpofnoaaGreatDoorQCondMovesE0
import Derived.Below
import Derived.Orders
import Derived.Laws.Cells
import Derived.Laws.OwnMore
import Derived.Laws.MakeOwn
import Derived.Laws.CopyRow
import Derived.Laws.Small
import Derived.Laws.Strings
import Derived.Laws.Cover3
import Derived.Laws.StructEq
import Derived.Great.BuildSlice
import Derived.Lib.ConvBytes
import Derived.Laws.BytesString
import Derived.Laws.BytesArg
import Derived.Laws.IdiomStrings
namespace Go.Proofs.YtlnbcpcnpofnoaaGreatDoor.E
open Go Go.RowKit
set_option linter.unusedVariables false
set_option linter.unusedSimpArgs false

def All2 {α β : Type} (P : α → β → Prop) : List α → List β → Prop
  | [], [] => True
  | a :: l, b :: m => P a b ∧ All2 P l m
  | _, _ => False
theorem All2.mono {α β : Type} {P Q : α → β → Prop} : ∀ {l : List α} {m : List β}, All2 P l m → (∀ a b, P a b → Q a b) → All2 Q l m
  | [], [], _, _ => trivial
  | a :: l, b :: m, ⟨h, r⟩, k => ⟨k a b h, All2.mono r k⟩
theorem All2.length {α β : Type} {P : α → β → Prop} : ∀ {l : List α} {m : List β}, All2 P l m → l.length = m.length
  | [], [], _ => rfl
  | a :: l, b :: m, ⟨_, r⟩ => by simp [All2.length r]
theorem All2.get {α β : Type} {P : α → β → Prop} : ∀ {l : List α} {m : List β} (i : Nat) {a : α}, All2 P l m → l[i]? = some a → ∃ b, m[i]? = some b ∧ P a b
  | x :: l, y :: m, 0, a, ⟨h, _⟩, e => by simp at e; subst e; exact ⟨y, rfl, h⟩
  | x :: l, y :: m, i + 1, a, ⟨_, r⟩, e => by simpa using All2.get i r (by simpa using e)
theorem All2.set {α β : Type} {P : α → β → Prop} : ∀ {l : List α} {m : List β} (i : Nat) {a : α} {b : β}, All2 P l m → P a b → All2 P (l.set i a) (m.set i b)
  | [], [], _, _, _, _, _ => trivial
  | x :: l, y :: m, 0, a, b, ⟨_, r⟩, h => ⟨h, r⟩
  | x :: l, y :: m, i + 1, a, b, ⟨h', r⟩, h => ⟨h', All2.set i r h⟩
theorem All2.append {α β : Type} {P : α → β → Prop} : ∀ {l l' : List α} {m m' : List β}, All2 P l m → All2 P l' m' → All2 P (l ++ l') (m ++ m')
  | [], _, [], _, _, h => h
  | x :: l, _, y :: m, _, ⟨h, r⟩, h' => ⟨h, All2.append r h'⟩
theorem All2.take {α β : Type} {P : α → β → Prop} : ∀ {l : List α} {m : List β} (n : Nat), All2 P l m → All2 P (l.take n) (m.take n)
  | _, _, 0, _ => trivial
  | [], [], _ + 1, _ => trivial
  | x :: l, y :: m, n + 1, ⟨h, r⟩ => ⟨h, All2.take n r⟩
theorem All2.drop {α β : Type} {P : α → β → Prop} : ∀ {l : List α} {m : List β} (n : Nat), All2 P l m → All2 P (l.drop n) (m.drop n)
  | _, _, 0, h => h
  | [], [], _ + 1, _ => trivial
  | x :: l, y :: m, n + 1, ⟨h, r⟩ => All2.drop n r

/-! ### Cells and plain values -/
def R (w : World) (own : Nat → Prop) : (ty : Ty) → ty.D → List Value → Prop
  | .int k, x, cs => cs = [.int k x]
  | .bool, b, cs => cs = [.bool b]
  | .str, s, cs => cs = [.string s]
  | .nil, _, cs => cs = [.slice none 0 0]
  | .any, _, cs => ∃ c, cs = [c] ∧ c.oneCell' = true
  | .lst t, l, cs => ∃ ao cap, cs = [.slice ao (List.length l) cap] ∧ List.length l ≤ cap ∧
      (l = [] ∨ ∃ a css, ao = some a ∧ ¬ own a.block ∧ All2 (R w own t) l css ∧ ∀ (j : Nat) (v : Value), css.flatten[j]? = some v → w.cell? (a.add j) = some v)
  | .pair a b, x, cs => ∃ c1 c2, cs = c1 ++ c2 ∧ R w own a x.1 c1 ∧ R w own b x.2 c2
  | .agg a, x, cs => R w own a x cs
theorem Ty.n_pos : ∀ t : Ty, 0 < t.n
  | .int _ | .bool | .str | .nil | .any | .lst _ => by simp [Ty.n]
  | .pair a b => by have := Ty.n_pos a; simp only [Ty.n]; omega
  | .agg a => by simpa only [Ty.n] using Ty.n_pos a
theorem R_len {w : World} {own : Nat → Prop} : ∀ {t : Ty} {x : t.D} {cs : List Value}, R w own t x cs → cs.length = t.n
  | .int _, _, _, h => by simp only [R] at h; subst h; rfl
  | .bool, _, _, h => by simp only [R] at h; subst h; rfl
  | .str, _, _, h => by simp only [R] at h; subst h; rfl
  | .nil, _, _, h => by simp only [R] at h; subst h; rfl
  | .any, _, _, h => by simp only [R] at h; obtain ⟨c, rfl, _⟩ := h; rfl
  | .lst _, _, _, h => by simp only [R] at h; obtain ⟨_, _, rfl, _⟩ := h; rfl
  | .pair a b, _, _, h => by simp only [R] at h; obtain ⟨c1, c2, rfl, h1, h2⟩ := h; simp [Ty.n, R_len h1, R_len h2]
  | .agg a, _, _, h => by simp only [R] at h; simpa only [Ty.n] using R_len h
theorem R_one {w : World} {own : Nat → Prop} : ∀ {t : Ty} {x : t.D} {cs : List Value}, R w own t x cs → ∀ c ∈ cs, c.oneCell' = true
  | .int _, _, _, h => by simp only [R] at h; subst h; simp [Value.oneCell']
  | .bool, _, _, h => by simp only [R] at h; subst h; simp [Value.oneCell']
  | .str, _, _, h => by simp only [R] at h; subst h; simp [Value.oneCell']
  | .nil, _, _, h => by simp only [R] at h; subst h; simp [Value.oneCell']
  | .any, _, _, h => by simp only [R] at h; obtain ⟨c, rfl, hc⟩ := h; simpa using hc
  | .lst _, _, _, h => by simp only [R] at h; obtain ⟨_, _, rfl, _⟩ := h; simp [Value.oneCell']
  | .pair a b, _, _, h => by
    simp only [R] at h; obtain ⟨c1, c2, rfl, h1, h2⟩ := h
    intro c hc
    rcases List.mem_append.1 hc with hc | hc
    · exact R_one h1 c hc
    · exact R_one h2 c hc
  | .agg a, _, _, h => by simp only [R] at h; exact R_one h
theorem flat_len {w : World} {own : Nat → Prop} {t : Ty} : ∀ {l : List t.D} {css : List (List Value)}, All2 (R w own t) l css → css.flatten.length = l.length * t.n
  | [], [], _ => by simp
  | x :: l, c :: css, ⟨h, r⟩ => by simp [flat_len r, R_len h, Nat.add_mul]; omega
theorem block_lt {w : World} {a : Addr} {v : Value} (h : w.cell? a = some v) : a.block < w.heap.size := World.block_lt_of_cell? w a h
theorem add_block (a : Addr) (n : Nat) : (a.add n).block = a.block := by unfold Addr.add; split <;> rfl
theorem cell_eq {w w' : World} {a : Addr} (h : w'.heap[a.block]? = w.heap[a.block]?) : w'.cell? a = w.cell? a := World.cell?_of_block h
/-- The worlds agree on what isn't owned; what is owned later on, of what was there, was owned. -/
structure Agree (w w' : World) (own own' : Nat → Prop) : Prop where
  heap : ∀ g, g < w.heap.size → ¬ own g → w'.heap[g]? = w.heap[g]?
  own : ∀ g, g < w.heap.size → own' g → own g
theorem R_mono {w w' : World} {own own' : Nat → Prop} (A : Agree w w' own own') : ∀ {t : Ty} {x : t.D} {cs : List Value}, R w own t x cs → R w' own' t x cs
  | .int _, _, _, h => h
  | .bool, _, _, h => h
  | .str, _, _, h => h
  | .nil, _, _, h => h
  | .any, _, _, h => h
  | .lst t, l, cs, h => by
    simp only [R] at h ⊢
    obtain ⟨ao, cap, rfl, hc, h⟩ := h
    refine ⟨ao, cap, rfl, hc, ?_⟩
    rcases h with h | ⟨a, css, ha, ho, hr, hcell⟩
    · exact .inl h
    · by_cases hl : l = []
      · exact .inl hl
      have hlen := flat_len hr
      have hpos : 0 < css.flatten.length := by
        rw [hlen]; exact Nat.mul_pos (List.length_pos_iff.2 hl) (Ty.n_pos t)
      have hlt : a.block < w.heap.size := by
        have := hcell 0 _ (List.getElem?_eq_getElem hpos)
        have h2 := block_lt this
        rwa [add_block] at h2
      refine .inr ⟨a, css, ha, fun k => ho (A.own _ hlt k), hr.mono fun _ _ => R_mono A, fun j v hj => ?_⟩
      rw [cell_eq (w := w) (by rw [add_block]; exact A.heap _ hlt ho)]
      exact hcell j v hj
  | .pair a b, x, cs, h => by
    simp only [R] at h ⊢
    obtain ⟨c1, c2, rfl, h1, h2⟩ := h
    exact ⟨c1, c2, rfl, R_mono A h1, R_mono A h2⟩
  | .agg a, x, cs, h => by simp only [R] at h ⊢; exact R_mono A h

/-- A value as a plain type's. -/
def VR (w : World) (own : Nat → Prop) (ty : Ty) (x : ty.D) (v : Value) : Prop :=
  R w own ty x v.cells.toList ∧ match ty with
    | .agg _ => ∃ cs, v = .agg cs
    | .pair _ _ => False
    | _ => v.oneCell' = true
theorem VR_mono {w w' : World} {own own' : Nat → Prop} (A : Agree w w' own own') {ty : Ty} {x : ty.D} {v : Value} (h : VR w own ty x v) : VR w' own' ty x v := ⟨R_mono A h.1, h.2⟩
def TupR (w : World) (own : Nat → Prop) : (ty : Ty) → ty.D → List Value → Prop
  | .nil, _, vs => vs = []
  | .pair a b, x, vs => ∃ v r, vs = v :: r ∧ VR w own a x.1 v ∧ TupR w own b x.2 r
  | t, x, vs => ∃ v, vs = [v] ∧ VR w own t x v
theorem TupR_mono {w w' : World} {own own' : Nat → Prop} (A : Agree w w' own own') : ∀ {ty : Ty} {x : ty.D} {vs : List Value}, TupR w own ty x vs → TupR w' own' ty x vs
  | .nil, _, _, h => h
  | .pair a b, _, _, h => by simp only [TupR] at h ⊢; obtain ⟨v, r, rfl, h1, h2⟩ := h; exact ⟨v, r, rfl, VR_mono A h1, TupR_mono A h2⟩
  | .int _, _, _, h => by simp only [TupR] at h ⊢; obtain ⟨v, rfl, h⟩ := h; exact ⟨v, rfl, VR_mono A h⟩
  | .bool, _, _, h => by simp only [TupR] at h ⊢; obtain ⟨v, rfl, h⟩ := h; exact ⟨v, rfl, VR_mono A h⟩
  | .str, _, _, h => by simp only [TupR] at h ⊢; obtain ⟨v, rfl, h⟩ := h; exact ⟨v, rfl, VR_mono A h⟩
  | .any, _, _, h => by simp only [TupR] at h ⊢; obtain ⟨v, rfl, h⟩ := h; exact ⟨v, rfl, VR_mono A h⟩
  | .lst _, _, _, h => by simp only [TupR] at h ⊢; obtain ⟨v, rfl, h⟩ := h; exact ⟨v, rfl, VR_mono A h⟩
  | .agg _, _, _, h => by simp only [TupR] at h ⊢; obtain ⟨v, rfl, h⟩ := h; exact ⟨v, rfl, VR_mono A h⟩

/-! ### What slots hold -/
/-- What the proof knows beside: each row's or box's head, and what stands in its block ahead of it and behind. -/
structure Gh where
  β : Nat → Value
  π : Nat → List Value × List Value
def headOf : Value → Option Addr
  | .slice a _ _ => a
  | .pointer a => a
  | _ => none
def AR (w : World) (own : Nat → Prop) (β : Nat → Value) (m : Nat → MB) : AV → Value → Prop
  | .dead, _ => True
  | .undef, v => v = undef
  | .fn f, v => v = .func (.func f) #[] #[]
  | .t ty x, v => VR w own ty x v
  | .lit ty l, v => VR w own (.lst ty) l v ∧ ∃ a, v = .slice a (List.length l) (List.length l)
  | .tup ty x, v => ∃ vs : List Value, v = .tuple vs.toArray ∧ TupR w own ty x vs
  | .bp p d, v => v = .bool (@decide p d)
  | .nq p, v => ∃ b, v = .bool b ∧ (b = true → p)
  | .ptr d off, v => match m d with
    | .box _ => ∃ a, β d = .pointer (some a) ∧ a.spot = none ∧ v = .pointer (some (a.add off))
    | .none => False
    | .capd => False
    | _ => True
  | .row d, v => match m d with
    | .own _ _ _ => v = β d
    | .froz _ _ => v = β d
    | .none => False
    | .capd => False
    | _ => True
  | .view d off n, v => match m d with
    | .own _ ty l => off + n ≤ List.length l ∧ ∃ cap, n ≤ cap ∧ v = .slice ((headOf (β d)).map (·.add (off * ty.n))) n cap
    | .froz ty l => off + n ≤ List.length l ∧ ∃ cap, n ≤ cap ∧ v = .slice ((headOf (β d)).map (·.add (off * ty.n))) n cap
    | .none => False
    | .capd => False
    | _ => True
  | .elt d i, v => match m d with
    | .own _ ty l => i < List.length l ∧ ∃ a, headOf (β d) = some a ∧ v = .pointer (some (a.add (i * ty.n)))
    | .none => False
    | .capd => False
    | _ => True
  | .vptr d _ i len, v => (0 ≤ i ∧ i < (len : Int)) ∧ match m d with
    | .box _ => ∃ a, β d = .pointer (some a) ∧ a.spot = none ∧ v = .pointer (some (a.add i.toNat))
    | .none => False
    | .capd => False
    | _ => True
  | .cell ty x, v => ∃ a cs, v = .pointer (some a) ∧ ¬ own a.block ∧ R w own ty x cs ∧ ∀ (j : Nat) (c : Value), cs[j]? = some c → w.cell? (a.add j) = some c
  | .glob g, v => v = .pointer (some ⟨g, 0, none⟩)
/-- What may become of a row or box, so that who holds on to it still does. -/
def Later (m m' : MB) : Prop := match m, m' with
  | .none, _ => True
  | .capd, _ => True
  | .gone, .none => False
  | .gone, .capd => False
  | .gone, .gone => True
  | .gone, _ => False
  | .box _, .box _ => True
  | .box _, .gone => True
  | .own _ ty l, .own _ ty' l' => ty = ty' ∧ List.length l = List.length l'
  | .own _ ty l, .froz ty' l' => ty = ty' ∧ List.length l = List.length l'
  | .own _ _ _, .gone => True
  | .froz ty l, .froz ty' l' => ty = ty' ∧ List.length l = List.length l'
  | .froz _ _, .gone => True
  | _, _ => False
theorem Later.refl (m : MB) : Later m m := by cases m <;> simp [Later]
def dead (m : MB) : Prop := match m with
  | .none => True
  | .capd => True
  | _ => False
theorem AR_mono {w w' : World} {own own' : Nat → Prop} {β β' : Nat → Value} {m m' : Nat → MB} (A : Agree w w' own own')
    (hβ : ∀ d, ¬ dead (m d) → β' d = β d) (hm : ∀ d, Later (m d) (m' d)) : ∀ {x : AV} {v : Value}, AR w own β m x v → AR w' own' β' m' x v
  | .dead, _, h => h
  | .undef, _, h => h
  | .fn _, _, h => h
  | .t _ _, _, h => VR_mono A h
  | .lit _ _, _, h => ⟨VR_mono A h.1, h.2⟩
  | .tup _ _, _, h => by simp only [AR] at h ⊢; obtain ⟨vs, rfl, h⟩ := h; exact ⟨vs, rfl, TupR_mono A h⟩
  | .bp _ _, _, h => h
  | .nq _, _, h => h
  | .ptr d off, v, h => by
    have l := hm d; have b := hβ d
    simp only [AR] at h ⊢
    revert h l b; cases m d <;> cases m' d <;> simp +contextual [Later, dead]
  | .row d, v, h => by
    have l := hm d; have b := hβ d
    simp only [AR] at h ⊢
    revert h l b; cases m d <;> cases m' d <;> simp +contextual [Later, dead]
  | .view d off n, v, h => by
    have l := hm d; have b := hβ d
    simp only [AR] at h ⊢
    revert h l b
    cases m d <;> cases m' d <;> intro h l b <;> simp only [Later, dead] at l b h ⊢ <;> try trivial
    all_goals (obtain ⟨rfl, h5⟩ := l; obtain ⟨h1, cap, h2, h3⟩ := h; rw [b (fun h => h)]; exact ⟨by omega, cap, h2, h3⟩)
  | .elt d i, v, h => by
    have l := hm d; have b := hβ d
    simp only [AR] at h ⊢
    revert h l b
    cases m d <;> cases m' d <;> intro h l b <;> simp only [Later, dead] at l b h ⊢ <;> try trivial
    all_goals (obtain ⟨rfl, h5⟩ := l; obtain ⟨h1, a, h2, h3⟩ := h; rw [b (fun h => h)]; exact ⟨by omega, a, h2, h3⟩)
  | .vptr d _ i len, v, h => by
    have l := hm d; have b := hβ d
    simp only [AR] at h ⊢
    revert h l b; cases m d <;> cases m' d <;> simp +contextual [Later, dead]
  | .cell ty x, v, h => by
    simp only [AR] at h ⊢
    obtain ⟨a, cs, rfl, ho, hr, hc⟩ := h
    have hpos : 0 < cs.length := by rw [R_len hr]; exact Ty.n_pos ty
    have hlt : a.block < w.heap.size := by
      have h2 := block_lt (hc 0 _ (List.getElem?_eq_getElem hpos)); rwa [add_block] at h2
    refine ⟨a, cs, rfl, fun k => ho (A.own _ hlt k), R_mono A hr, fun j c hj => ?_⟩
    rw [cell_eq (w := w) (by rw [add_block]; exact A.heap _ hlt ho)]
    exact hc j c hj
  | .glob _, _, h => h
end Go.Proofs.YtlnbcpcnpofnoaaGreatDoor.E

/- The state of a call: what the evaluator's state says of it, and the ways it goes on. -/
namespace Go.Proofs.YtlnbcpcnpofnoaaGreatDoor.E
open Go Go.RowKit
set_option linter.unusedVariables false
set_option linter.unusedSimpArgs false

theorem upd_same {α : Type} (f : Nat → α) (d : Nat) (v : α) : upd f d v d = v := by
  show cond (Nat.beq d d) v (f d) = v
  rw [Nat.beq_refl]; rfl
theorem upd_other {α : Type} (f : Nat → α) {d e : Nat} (v : α) (h : e ≠ d) : upd f d v e = f e := by
  simp only [upd]
  have : Nat.beq e d = false := by
    cases hb : Nat.beq e d
    · rfl
    · exact absurd (Nat.eq_of_beq_eq_true hb) h
  rw [this]; rfl
theorem upd_self {α : Type} (f : Nat → α) (d : Nat) : upd f d (f d) = f := by
  funext e
  by_cases h : e = d
  · subst h; rw [upd_same]
  · rw [upd_other f _ h]

def blk (β : Nat → Value) (m : Nat → MB) (d : Nat) : Option Nat := match m d with
  | .box _ => (headOf (β d)).map (·.block)
  | .own _ _ _ => (headOf (β d)).map (·.block)
  | _ => none
def Own (X : Nat → Prop) (β : Nat → Value) (m : Nat → MB) (g : Nat) : Prop := X g ∨ ∃ d, blk β m d = some g
def MR (w : World) (own : Nat → Prop) (G : Gh) (m : Nat → MB) (d : Nat) : Prop := match m d with
  | .box l => ∃ (g : Nat) (e : TypeId) (cs : List Value), G.β d = .pointer (some ⟨g, (G.π d).1.length, none⟩) ∧
      w.heap[g]? = some (.cells ((G.π d).1 ++ cs ++ (G.π d).2).toArray e (0, 0)) ∧ All2 (AR w own G.β m) l cs ∧ ∀ c ∈ cs, c.oneCell' = true
  | .own app ty l => (G.β d = .slice none 0 0 ∧ l = [] ∧ app = true) ∨
      ∃ (g : Nat) (e : TypeId) (cap : Nat) (css : List (List Value)) (post : List Value), G.β d = .slice (some ⟨g, (G.π d).1.length, none⟩) (List.length l) cap ∧
      w.heap[g]? = some (.cells ((G.π d).1 ++ css.flatten ++ post).toArray e (0, 0)) ∧ All2 (R w own ty) l css ∧ List.length l ≤ cap ∧
      (if app = true then (G.π d).1 = [] ∧ css.flatten.length + post.length = cap * ty.n ∧ cap ≤ maxLen else post = (G.π d).2)
  | .froz ty l => R w own (.lst ty) l [G.β d]
  | _ => True
theorem blk_lt {w : World} {own : Nat → Prop} {G : Gh} {m : Nat → MB} {d g : Nat} (h : MR w own G m d) (hb : blk G.β m d = some g) : g < w.heap.size := by
  unfold MR at h; unfold blk at hb
  cases hm : m d <;> rw [hm] at h hb <;> simp only at h hb <;> try (cases hb; done)
  · obtain ⟨g', e, cs, hβ, hh, _⟩ := h
    rw [hβ] at hb; simp [headOf] at hb; subst hb
    exact (Array.getElem?_eq_some_iff.1 hh).1
  · rcases h with ⟨hβ, _⟩ | ⟨g', e, cap, css, post, hβ, hh, _⟩
    · rw [hβ] at hb; simp [headOf] at hb
    · rw [hβ] at hb; simp [headOf] at hb; subst hb
      exact (Array.getElem?_eq_some_iff.1 hh).1
theorem MR_mono {w w' : World} {own own' : Nat → Prop} {G G' : Gh} {m m' : Nat → MB} (A : Agree w w' own own') (hβ : ∀ d, ¬ dead (m d) → G'.β d = G.β d) (hl : ∀ d, Later (m d) (m' d))
    {d : Nat} (hm : m' d = m d) (hβd : G'.β d = G.β d) (hπ : G'.π d = G.π d) (hb : ∀ g, blk G.β m d = some g → w'.heap[g]? = w.heap[g]?) (h : MR w own G m d) : MR w' own' G' m' d := by
  unfold MR at h ⊢; unfold blk at hb
  rw [hm, hβd, hπ]
  cases hmd : m d <;> rw [hmd] at h hb <;> simp only at h hb ⊢
  · obtain ⟨g, e, cs, h1, h2, h3, h4⟩ := h
    refine ⟨g, e, cs, h1, ?_, h3.mono fun _ _ => AR_mono A hβ hl, h4⟩
    rw [hb g (by rw [h1]; rfl)]; exact h2
  · rcases h with h | ⟨g, e, cap, css, post, h1, h2, h3, h4⟩
    · exact .inl h
    · refine .inr ⟨g, e, cap, css, post, h1, ?_, h3.mono fun _ _ => R_mono A, h4⟩
      rw [hb g (by rw [h1]; rfl)]; exact h2
  · exact R_mono A h

/-- A row that was handed over to be written on: its head, and what stands around it; what may be written on. -/
structure Root where
  f : Nat → Prop
  v : Value
  π : List Value × List Value
instance : CoeFun Root (fun _ => Nat → Prop) := ⟨Root.f⟩
def isRoot : MB → Bool
  | .own false _ _ => true
  | _ => false
structure EnvR (X : Nat → Prop) (F : Root) (w0 : World) (n : Nat) (G : Gh) (st : St) (a : Act) (w : World) : Prop where
  slots : ∀ t, AR w (Own X G.β st.m) G.β st.m (st.s t) (a.tmps.getD t undef)
  mems : ∀ d, MR w (Own X G.β st.m) G st.m d
  disj : ∀ d d' g, blk G.β st.m d = some g → blk G.β st.m d' = some g → d = d'
  notX : ∀ d g, blk G.β st.m d = some g → ¬ X g
  fresh : ∀ d g, blk G.β st.m d = some g → w0.heap.size ≤ g ∨ F g
  xlt : ∀ g, X g → g < w0.heap.size
  defers : a.defers = []
  size : a.tmps.size = n
  os : w.os = w0.os
  tape : w.tape = w0.tape
  output : w.output = w0.output
  grown : w0.heap.size ≤ w.heap.size
  keep : ∀ k, k < w0.heap.size → ¬ F k → w.heap[k]? = w0.heap[k]?
  root : ∀ d, isRoot (st.m d) = true → G.β d = F.v ∧ G.π d = F.π

variable {X : Nat → Prop} {F : Root} {w0 : World} {n : Nat} {G : Gh} {st : St} {a : Act} {w : World}

theorem put_getD (a : Act) (dst : Option Nat) (x : Value) (t : Nat) (h : ∀ d, dst = some d → d < a.tmps.size) :
    (a.put dst x).tmps.getD t undef = (match dst with | some d => if t = d then x else a.tmps.getD t undef | none => a.tmps.getD t undef) := by
  cases dst with
  | none => rfl
  | some d =>
    have hd := h d rfl
    simp only [Act.put, Array.getD_eq_getD_getElem?, Array.getElem?_setIfInBounds]
    by_cases e : t = d
    · subst e; simp [hd]
    · rw [if_neg e, if_neg (Ne.symm e)]
theorem put_size (a : Act) (dst : Option Nat) (x : Value) : (a.put dst x).tmps.size = a.tmps.size := by cases dst <;> simp [Act.put]
theorem put_defers (a : Act) (dst : Option Nat) (x : Value) : (a.put dst x).defers = a.defers := by cases dst <;> simp [Act.put]
theorem St.put_m (st : St) (dst : Option Nat) (v : AV) : (st.put dst v).m = st.m := by cases dst <;> rfl
theorem St.put_s (st : St) (dst : Option Nat) (v : AV) (t : Nat) : (st.put dst v).s t = (match dst with | some d => if t = d then v else st.s t | none => st.s t) := by
  cases dst with
  | none => rfl
  | some d =>
    show upd st.s d v t = _
    by_cases e : t = d
    · subst e; simp [upd_same]
    · simp [upd_other _ _ e, e]

/-- A value is put into a slot. -/
theorem EnvR.put (E : EnvR X F w0 n G st a w) (dst : Option Nat) (hd : ∀ d, dst = some d → d < n) {v : AV} {x : Value} (h : AR w (Own X G.β st.m) G.β st.m v x) :
    EnvR X F w0 n G (st.put dst v) (a.put dst x) w := by
  have hd' : ∀ d, dst = some d → d < a.tmps.size := by rw [E.size]; exact hd
  refine ⟨fun t => ?_, fun d => by rw [St.put_m]; exact E.mems d, by rw [St.put_m]; exact E.disj, by rw [St.put_m]; exact E.notX, by rw [St.put_m]; exact E.fresh, E.xlt, by rw [put_defers]; exact E.defers, by rw [put_size]; exact E.size, E.os, E.tape, E.output, E.grown, E.keep, by rw [St.put_m]; exact E.root⟩
  rw [St.put_m, put_getD a dst x t hd', St.put_s]
  cases dst with
  | none => exact E.slots t
  | some d =>
    by_cases e : t = d
    · simp only [e, if_true]; exact h
    · simp only [e, if_false]; exact E.slots t

/-- Some rows and boxes change; what was there else stays; memory may grow. -/
theorem EnvR.stepC (E : EnvR X F w0 n G st a w) (C : Nat → Prop) (G' : Gh) (m' : Nat → MB) (w' : World)
    (hkeep : ∀ d, ¬ C d → m' d = st.m d ∧ G'.β d = G.β d ∧ G'.π d = G.π d)
    (hold : ∀ d, ¬ dead (st.m d) → G'.β d = G.β d) (hl : ∀ d, Later (st.m d) (m' d))
    (hsize : w.heap.size ≤ w'.heap.size) (hos : w'.os = w.os) (htape : w'.tape = w.tape) (hout : w'.output = w.output)
    (hheap : ∀ g, g < w.heap.size → (∀ d, C d → blk G.β st.m d ≠ some g) → w'.heap[g]? = w.heap[g]?)
    (hown : ∀ d g, C d → blk G'.β m' d = some g → (∃ d1, C d1 ∧ blk G.β st.m d1 = some g) ∨ w.heap.size ≤ g)
    (huniq : ∀ d d' g, C d → C d' → blk G'.β m' d = some g → blk G'.β m' d' = some g → d = d')
    (hroot : ∀ d, C d → isRoot (m' d) = true → G'.β d = F.v ∧ G'.π d = F.π)
    (hMR : ∀ d, C d → Agree w w' (Own X G.β st.m) (Own X G'.β m') →
      (∀ {x : AV} {v : Value}, AR w (Own X G.β st.m) G.β st.m x v → AR w' (Own X G'.β m') G'.β m' x v) → MR w' (Own X G'.β m') G' m' d) :
    EnvR X F w0 n G' ⟨st.s, m'⟩ a w' ∧ Agree w w' (Own X G.β st.m) (Own X G'.β m') ∧
      (∀ {x : AV} {v : Value}, AR w (Own X G.β st.m) G.β st.m x v → AR w' (Own X G'.β m') G'.β m' x v) := by
  have hb : ∀ d, ¬ C d → blk G'.β m' d = blk G.β st.m d := by
    intro d e
    unfold blk; rw [(hkeep d e).1, (hkeep d e).2.1]
  have hlt : ∀ d g, blk G.β st.m d = some g → g < w.heap.size := fun d g h => blk_lt (E.mems d) h
  have howned : ∀ d g, blk G'.β m' d = some g → (∃ d1, (d1 = d ∨ C d ∧ C d1) ∧ blk G.β st.m d1 = some g) ∨ (C d ∧ w.heap.size ≤ g) := by
    intro d g h
    by_cases e : C d
    · rcases hown d g e h with ⟨d1, h1, h2⟩ | h
      · exact .inl ⟨d1, .inr ⟨e, h1⟩, h2⟩
      · exact .inr ⟨e, h⟩
    · rw [hb d e] at h; exact .inl ⟨d, .inl rfl, h⟩
  have A : Agree w w' (Own X G.β st.m) (Own X G'.β m') := by
    refine ⟨fun g hg ho => hheap g hg fun d _ h => ho (.inr ⟨d, h⟩), fun g hg ho => ?_⟩
    rcases ho with h | ⟨d, h⟩
    · exact .inl h
    · rcases howned d g h with ⟨d1, _, h⟩ | ⟨_, h⟩
      · exact .inr ⟨d1, h⟩
      · omega
  have hAR : ∀ {x : AV} {v : Value}, AR w (Own X G.β st.m) G.β st.m x v → AR w' (Own X G'.β m') G'.β m' x v := AR_mono A hold hl
  refine ⟨⟨fun t => hAR (E.slots t), fun d => ?_, fun d d' g h h' => ?_, fun d g h hx => ?_, fun d g h => ?_, E.xlt, E.defers, E.size, hos.trans E.os, htape.trans E.tape, hout.trans E.output, Nat.le_trans E.grown hsize, fun k hk hF => ?_, fun d hd => ?_⟩, A, hAR⟩
  · by_cases e : C d
    · exact hMR d e A hAR
    · refine MR_mono A hold hl (hkeep d e).1 (hkeep d e).2.1 (hkeep d e).2.2 (fun g hg => ?_) (E.mems d)
      exact hheap g (hlt d g hg) fun d' hd' h => e (by rw [E.disj d d' g hg h]; exact hd')
  · by_cases e : C d <;> by_cases e' : C d'
    · exact huniq d d' g e e' h h'
    · rw [hb d' e'] at h'
      rcases hown d g e h with ⟨d1, h1, h2⟩ | h2
      · exact absurd h1 (by rw [E.disj d1 d' g h2 h']; exact e')
      · have := hlt d' g h'; omega
    · rw [hb d e] at h
      rcases hown d' g e' h' with ⟨d1, h1, h2⟩ | h2
      · exact absurd h1 (by rw [E.disj d1 d g h2 h]; exact e)
      · have := hlt d g h; omega
    · rw [hb d e] at h; rw [hb d' e'] at h'; exact E.disj d d' g h h'
  · rcases howned d g h with ⟨d1, _, h1⟩ | ⟨_, h1⟩
    · exact E.notX d1 g h1 hx
    · have := E.xlt g hx; have := E.grown; omega
  · rcases howned d g h with ⟨d1, _, h1⟩ | ⟨_, h1⟩
    · exact E.fresh d1 g h1
    · exact .inl (Nat.le_trans E.grown h1)
  · rw [hheap k (Nat.lt_of_lt_of_le hk E.grown) ?_]
    · exact E.keep k hk hF
    · intro d _ h
      rcases E.fresh d k h with h1 | h1
      · omega
      · exact hF h1
  · by_cases e : C d
    · exact hroot d e hd
    · obtain ⟨e1, e2, e3⟩ := hkeep d e
      rw [e2, e3]
      exact E.root d (by rw [← e1]; exact hd)
/-- Memory grows; nothing that was there changes. -/
theorem EnvR.grow (E : EnvR X F w0 n G st a w) (w' : World) (hsize : w.heap.size ≤ w'.heap.size) (hos : w'.os = w.os) (htape : w'.tape = w.tape) (hout : w'.output = w.output)
    (hheap : ∀ g, g < w.heap.size → w'.heap[g]? = w.heap[g]?) :
    EnvR X F w0 n G st a w' ∧ Agree w w' (Own X G.β st.m) (Own X G.β st.m) := by
  have A : Agree w w' (Own X G.β st.m) (Own X G.β st.m) := ⟨fun g hg _ => hheap g hg, fun _ _ h => h⟩
  refine ⟨⟨fun t => AR_mono A (fun _ _ => rfl) (fun _ => Later.refl _) (E.slots t), fun d => ?_, E.disj, E.notX, E.fresh, E.xlt, E.defers, E.size, hos.trans E.os, htape.trans E.tape, hout.trans E.output, Nat.le_trans E.grown hsize, fun k hk hF => ?_, E.root⟩, A⟩
  · exact MR_mono A (fun _ _ => rfl) (fun _ => Later.refl _) rfl rfl rfl (fun g hg => hheap g (blk_lt (E.mems d) hg)) (E.mems d)
  · rw [hheap k (Nat.lt_of_lt_of_le hk E.grown)]; exact E.keep k hk hF
end Go.Proofs.YtlnbcpcnpofnoaaGreatDoor.E

/- Values: constants, parts, what is looked up, one type into another. -/
namespace Go.Proofs.YtlnbcpcnpofnoaaGreatDoor.E
open Go Go.RowKit
set_option linter.unusedVariables false
set_option linter.unusedSimpArgs false

variable {P : Program} {X : Nat → Prop} {F : Root} {w0 : World} {n : Nat} {G : Gh} {st : St} {a : Act} {w : World} {own : Nat → Prop} {β : Nat → Value} {m : Nat → MB}

theorem VR_one {ty : Ty} {x : ty.D} {v : Value} (hv : v.oneCell' = true) (hc : v.cells = #[v]) (h : R w own ty x [v]) (ht : ∀ a, ty ≠ .agg a) (hp : ∀ a b, ty ≠ .pair a b) : VR w own ty x v := by
  refine ⟨by rw [hc]; exact h, ?_⟩
  cases ty with
  | agg a => exact absurd rfl (ht a)
  | pair a b => exact absurd rfl (hp a b)
  | _ => exact hv
theorem cells_of_one {v : Value} (h : v.oneCell' = true) : v.cells = #[v] := by cases v <;> simp_all [Value.cells, Value.oneCell']
/-- A cell's value, as a plain type's. -/
theorem VR_cell {ty : Ty} {x : ty.D} {v : Value} (h : R w own ty x [v]) (ht : ∀ a, ty ≠ .agg a) (hp : ∀ a b, ty ≠ .pair a b) : VR w own ty x v :=
  have h1 := R_one h v (by simp)
  VR_one h1 (cells_of_one h1) h ht hp

/-! ### Constants -/
theorem ofVal_R {v : Value} {x : Σ t : Ty, t.D} (h : ofVal v = some x) : R w own x.1 x.2 [v] ∧ v.oneCell' = true ∧ (∀ a, x.1 ≠ .agg a) ∧ (∀ a b, x.1 ≠ .pair a b) := by
  unfold ofVal at h
  split at h <;> first | (cases h; done) | (obtain rfl := Option.some.inj h; refine ⟨?_, by rfl, ?_, ?_⟩ <;> first | (simp [R]; done) | (intros; simp))
theorem tyOfL_R : ∀ {l : List (Σ t : Ty, t.D)} {vs : List Value}, l ≠ [] → All2 (fun x v => R w own x.1 x.2 [v]) l vs → R w own (tyOfL l).1 (tyOfL l).2 vs
  | [], _, h, _ => absurd rfl h
  | [x], [v], _, ⟨h, _⟩ => h
  | x :: y :: l, v :: u :: vs, _, ⟨h, r⟩ => by
    have := tyOfL_R (l := y :: l) (by simp) r
    simp only [tyOfL, R]
    exact ⟨[v], u :: vs, rfl, h, this⟩
  | [_], [], _, h => h.elim
  | [_], _ :: _ :: _, _, h => h.2.elim
  | _ :: _ :: _, [], _, h => h.elim
  | _ :: _ :: _, [_], _, h => h.2.elim
theorem ofVals_R : ∀ {vs : List Value} {l : List (Σ t : Ty, t.D)}, ofVals vs = some l → All2 (fun x v => R w own x.1 x.2 [v]) l vs
  | [], l, h => by simp [ofVals] at h; subst h; trivial
  | v :: vs, l, h => by
    simp only [ofVals] at h
    split at h
    · rename_i x l' h1 h2
      obtain rfl := Option.some.inj h
      exact ⟨(ofVal_R h1).1, ofVals_R h2⟩
    · cases h
theorem ofValue_AR (v : Value) : AR w own β m (ofValue v) v := by
  unfold ofValue
  split
  · rename_i cs
    split
    · rename_i x l h
      refine ⟨?_, cs, rfl⟩
      simp only [Value.cells, R]
      exact tyOfL_R (by simp) (ofVals_R h)
    · trivial
  · split
    · rename_i x h
      obtain ⟨h1, h2, h3, h4⟩ := ofVal_R (w := w) (own := own) h
      exact VR_one h2 (cells_of_one h2) h1 h3 h4
    · trivial

/-! ### Cells -/
theorem All2.split {α β : Type} {Q : α → β → Prop} : ∀ {l1 l2 : List α} {cs : List β}, All2 Q (l1 ++ l2) cs → ∃ c1 c2, cs = c1 ++ c2 ∧ All2 Q l1 c1 ∧ All2 Q l2 c2
  | [], l2, cs, h => ⟨[], cs, rfl, trivial, h⟩
  | x :: l1, l2, c :: cs, ⟨h, r⟩ => by
    obtain ⟨c1, c2, rfl, h1, h2⟩ := All2.split r
    exact ⟨c :: c1, c2, rfl, ⟨h, h1⟩, h2⟩
theorem cellsOf_AR : ∀ {t : Ty} {x : t.D} {cs : List Value}, R w own t x cs → All2 (AR w own β m) (cellsOf t x) cs
  | .pair a b, x, cs, h => by
    simp only [R] at h
    obtain ⟨c1, c2, rfl, h1, h2⟩ := h
    exact All2.append (cellsOf_AR h1) (cellsOf_AR h2)
  | .agg a, x, cs, h => by simp only [R] at h; exact cellsOf_AR (t := a) h
  | .int k, x, cs, h => by
    have h1 := R_len h
    match cs, h1, h with
    | [c], _, h => exact ⟨VR_cell h (by simp) (by simp), trivial⟩
  | .bool, x, cs, h => by
    have h1 := R_len h
    match cs, h1, h with
    | [c], _, h => exact ⟨VR_cell h (by simp) (by simp), trivial⟩
  | .str, x, cs, h => by
    have h1 := R_len h
    match cs, h1, h with
    | [c], _, h => exact ⟨VR_cell h (by simp) (by simp), trivial⟩
  | .nil, x, cs, h => by
    have h1 := R_len h
    match cs, h1, h with
    | [c], _, h => exact ⟨VR_cell h (by simp) (by simp), trivial⟩
  | .any, x, cs, h => by
    have h1 := R_len h
    match cs, h1, h with
    | [c], _, h => exact ⟨VR_cell h (by simp) (by simp), trivial⟩
  | .lst t, x, cs, h => by
    have h1 := R_len h
    match cs, h1, h with
    | [c], _, h => exact ⟨VR_cell h (by simp) (by simp), trivial⟩
theorem cellsOf_len : ∀ (t : Ty) (x : t.D), (cellsOf t x).length = t.n
  | .pair a b, x => by simp [cellsOf, Ty.n, cellsOf_len a, cellsOf_len b]
  | .agg a, x => by simp only [cellsOf, Ty.n]; exact cellsOf_len a x
  | .int _, _ => rfl
  | .bool, _ => rfl
  | .str, _ => rfl
  | .nil, _ => rfl
  | .any, _ => rfl
  | .lst _, _ => rfl
theorem VR_shape {ty : Ty} {x : ty.D} {v : Value} (h : VR w own ty x v) : (∃ cs, v = .agg cs) ∨ v.oneCell' = true := by
  obtain ⟨_, h⟩ := h
  cases ty with
  | agg a => exact .inl h
  | pair a b => exact h.elim
  | _ => exact .inr h
theorem plain_one {x : AV} {p : Σ t : Ty, t.D} {v : Value} (h : plainAV x = some p) (hr : AR w own β m x v) (hv : v.oneCell' = true) : R w own p.1 p.2 [v] := by
  unfold plainAV at h
  split at h
  · obtain rfl := Option.some.inj h
    have := hr.1
    rw [cells_of_one hv] at this
    exact this
  · obtain rfl := Option.some.inj h
    simp only [AR] at hr
    subst hr
    simp [R]
  · cases h
theorem gather_R : ∀ {l : List AV} {ps : List (Σ t : Ty, t.D)} {cs : List Value}, gather l = some ps → All2 (AR w own β m) l cs → (∀ c ∈ cs, c.oneCell' = true) → All2 (fun x v => R w own x.1 x.2 [v]) ps cs
  | [], ps, [], h, _, _ => by simp [gather] at h; subst h; trivial
  | x :: l, ps, c :: cs, h, ⟨hx, hr⟩, h1 => by
    simp only [gather] at h
    split at h
    · rename_i p ps' e1 e2
      obtain rfl := Option.some.inj h
      exact ⟨plain_one e1 hx (h1 c (by simp)), gather_R e2 hr fun c hc => h1 c (by simp [hc])⟩
    · cases h
theorem aggOf_AR {l : List AV} {cs : List Value} (h : All2 (AR w own β m) l cs) (h1 : ∀ c ∈ cs, c.oneCell' = true) : AR w own β m (aggOf l) (.agg cs.toArray) := by
  unfold aggOf
  split
  · rename_i x r e
    refine ⟨?_, _, rfl⟩
    have := tyOfL_R (by simp) (gather_R e h h1)
    simpa [Value.cells, R] using this
  · trivial
theorem add_add (a : Addr) (p j : Nat) : (a.add p).add j = a.add (p + j) := by
  unfold Addr.add
  by_cases hp : p = 0 <;> by_cases hj : j = 0
  · simp [hp, hj]
  · simp [hp, hj]
  · simp [hp, hj]
  · have : ¬ p + j = 0 := by omega
    simp [hp, hj, Nat.add_assoc]
theorem add_zero (a : Addr) : a.add 0 = a := rfl
theorem flatten_drop {k : Nat} : ∀ (css : List (List Value)) (off : Nat), (∀ c ∈ css, c.length = k) → (css.drop off).flatten = css.flatten.drop (off * k)
  | css, 0, _ => by simp
  | [], off + 1, _ => by simp
  | c :: css, off + 1, h => by
    have hc := h c (by simp)
    simp only [List.drop_succ_cons, List.flatten_cons]
    rw [flatten_drop css off (fun c hc => h c (by simp [hc])), List.drop_append, show (off + 1) * k - c.length = off * k by rw [hc, Nat.add_mul]; omega, List.drop_eq_nil_of_le (as := c) (by rw [hc, Nat.add_mul]; omega)]
    simp
theorem flatten_take {k : Nat} : ∀ (css : List (List Value)) (n : Nat), (∀ c ∈ css, c.length = k) → (css.take n).flatten = css.flatten.take (n * k)
  | css, 0, _ => by simp
  | [], n + 1, _ => by simp
  | c :: css, n + 1, h => by
    have hc := h c (by simp)
    simp only [List.take_succ_cons, List.flatten_cons]
    rw [flatten_take css n (fun c hc => h c (by simp [hc])), List.take_append, show (n + 1) * k - c.length = n * k by rw [hc, Nat.add_mul]; omega, List.take_of_length_le (l := c) (by rw [hc, Nat.add_mul]; omega)]
theorem All2_lens {ty : Ty} {own : Nat → Prop} : ∀ {l : List ty.D} {css : List (List Value)}, All2 (R w own ty) l css → ∀ c ∈ css, c.length = ty.n
  | [], [], _, _, hd => by cases hd
  | x :: l, c :: css, ⟨h, r⟩, d, hd => by
    rcases List.mem_cons.1 hd with rfl | hd
    · exact R_len h
    · exact All2_lens r d hd
theorem piece_get {ty : Ty} {own : Nat → Prop} {l : List ty.D} {css : List (List Value)} (h : All2 (R w own ty) l css) (off n j : Nat) {c : Value}
    (hj : ((css.drop off).take n).flatten[j]? = some c) : css.flatten[off * ty.n + j]? = some c := by
  have hl := All2_lens h
  rw [flatten_take _ _ (fun c hc => hl c (List.mem_of_mem_drop hc)), flatten_drop _ _ hl, List.getElem?_take] at hj
  split at hj
  · simpa using hj
  · cases hj
/-- What is looked up: the value, and what lies behind it. -/
def LR (w : World) (own : Nat → Prop) (G : Gh) (m : Nat → MB) (l : AV × MB) (v : Value) : Prop :=
  AR w own G.β m l.1 v ∧ (match l.1 with
    | .ptr d _ => l.2 = m d
    | .row d => l.2 = m d
    | .view d _ _ => l.2 = m d
    | .elt d _ => l.2 = m d
    | .vptr d _ _ _ => l.2 = m d
    | .t (.lst ty) x => l.2 = .none ∨ l.2 = .capd ∧ ∃ a, v = .slice a (List.length x) (List.length x)
    | _ => l.2 = .none)
theorem head_slice {v : Value} {a : Option Addr} {n cap : Nat} (h : v = .slice a n cap) : headOf v = a := by subst h; rfl
theorem at_LR {own : Nat → Prop} {G : Gh} {m : Nat → MB} (M : ∀ d, MR w own G m d) {x : AV} {v : Value} (h : AR w own G.β m x v) : LR w own G m (x.at m) v := by
  cases x with
  | row d =>
    have hM := M d
    simp only [AV.at]
    unfold MR at hM
    simp only [AR] at h
    cases hm : m d <;> rw [hm] at hM h <;> simp only at hM h ⊢ <;> try (exact h.elim)
    all_goals first
      | (refine ⟨?_, ?_⟩ <;> simp [AR, hm, h]; done)
      | skip
    refine ⟨?_, .inl rfl⟩
    subst h
    exact VR_cell hM (by simp) (by simp)
  | view d off n =>
    have hM := M d
    simp only [AV.at]
    unfold MR at hM
    simp only [AR] at h
    cases hm : m d <;> rw [hm] at hM h <;> simp only at hM h ⊢ <;> try (exact h.elim)
    all_goals first
      | (refine ⟨?_, ?_⟩ <;> simp [AR, hm, h]; done)
      | skip
    rename_i ty l
    refine ⟨?_, .inl rfl⟩
    obtain ⟨hle, cap, hcap, rfl⟩ := h
    simp only [R] at hM
    obtain ⟨ao, cap0, hβ, hc0, hM⟩ := hM
    have hβ' : G.β d = .slice ao (List.length l) cap0 := by simpa using hβ
    refine VR_cell (ty := .lst ty) ?_ (by simp) (by simp)
    simp only [R]
    have hlen : ((l.drop off).take n).length = n := by simp; omega
    refine ⟨_, cap, by rw [hlen], by rw [hlen]; exact hcap, ?_⟩
    by_cases hn : n = 0
    · subst hn; exact .inl (by simp)
    rcases hM with hM | ⟨a, css, rfl, ho, hr, hcell⟩
    · subst hM; simp at hle; omega
    · refine .inr ⟨a.add (off * ty.n), (css.drop off).take n, by rw [hβ']; rfl, by rw [add_block]; exact ho, All2.take n (All2.drop off hr), fun j c hj => ?_⟩
      rw [add_add]
      exact hcell _ _ (piece_get hr off n j hj)
  | lit ty l => exact ⟨h.1, .inr ⟨rfl, h.2⟩⟩
  | ptr d o => exact ⟨h, rfl⟩
  | elt d i => exact ⟨h, rfl⟩
  | vptr d ty i n => exact ⟨h, rfl⟩
  | dead => exact ⟨h, rfl⟩
  | undef => exact ⟨h, rfl⟩
  | fn f => exact ⟨h, rfl⟩
  | t ty y => cases ty <;> first | exact ⟨h, rfl⟩ | exact ⟨h, .inl rfl⟩
  | tup ty y => exact ⟨h, rfl⟩
  | bp p d => exact ⟨h, rfl⟩
  | nq p => exact ⟨h, rfl⟩
  | cell ty y => exact ⟨h, rfl⟩
  | glob g => exact ⟨h, rfl⟩
theorem MR_head {own : Nat → Prop} {G : Gh} {m : Nat → MB} {d : Nat} {app : Bool} {ty : Ty} {l : List ty.D} (h : MR w own G m d) (hm : m d = .own app ty l) : ∃ ao cap, G.β d = .slice ao (List.length l) cap ∧ List.length l ≤ cap := by
  unfold MR at h; rw [hm] at h; simp only at h
  rcases h with ⟨h, hl, _⟩ | ⟨g, e, cap, css, post, h, _, _, hc, _⟩
  · subst hl; exact ⟨none, 0, h, Nat.le_refl _⟩
  · exact ⟨_, cap, h, hc⟩
theorem flat_AR {own : Nat → Prop} {G : Gh} {m : Nat → MB} (M : ∀ d, MR w own G m d) {x : AV × MB} {v : Value} {l : List AV} (hl : flat x = some l) (h : LR w own G m x v) :
    All2 (AR w own G.β m) l v.cells.toList ∧ ∀ c ∈ v.cells.toList, c.oneCell' = true := by
  obtain ⟨x, b⟩ := x
  obtain ⟨h1, h2⟩ := h
  unfold flat at hl
  simp only at hl h1 h2
  split at hl
  · obtain rfl := Option.some.inj hl
    exact ⟨cellsOf_AR h1.1, R_one h1.1⟩
  · obtain rfl := Option.some.inj hl
    simp only [AR] at h1; subst h1
    exact ⟨⟨rfl, trivial⟩, by simp [Value.cells, Value.oneCell']⟩
  · rename_i d app ty l'
    obtain rfl := Option.some.inj hl
    simp only at h2
    obtain ⟨ao, cap, hb, _⟩ := MR_head (M d) h2.symm
    have hv : v = G.β d := by simp only [AR] at h1; rw [← h2] at h1; exact h1
    have h3 : v.cells = #[v] := cells_of_one (by rw [hv, hb]; rfl)
    rw [h3]
    refine ⟨⟨h1, trivial⟩, ?_⟩
    intro c hc
    simp at hc; subst hc; rw [hv, hb]; rfl
  · rename_i d o l'
    obtain rfl := Option.some.inj hl
    simp only at h2
    have hv : ∃ a, v = .pointer (some a) := by
      simp only [AR] at h1; rw [← h2] at h1
      obtain ⟨a, _, _, rfl⟩ := h1
      exact ⟨_, rfl⟩
    obtain ⟨a, rfl⟩ := hv
    exact ⟨⟨h1, trivial⟩, by simp [Value.cells, Value.oneCell']⟩
  · cases hl

/-! ### One type into another -/
theorem coD_R : ∀ {a b : Ty} {x : a.D} {y : b.D} {cs : List Value}, coD a b x = some y → R w own a x cs → R w own b y cs := by
  intro a
  induction a with
  | int j => intro b x y cs h hr; cases b <;> simp only [coD] at h <;> first | (cases h; done) | skip
             rename_i k
             cases hk : decide (j = k) <;> rw [hk] at h
             · cases h
             · have := of_decide_eq_true hk; subst this; obtain rfl := Option.some.inj h; exact hr
  | bool => intro b x y cs h hr; cases b <;> simp only [coD] at h <;> first | (cases h; done) | (obtain rfl := Option.some.inj h; exact hr) | exact hr
  | str => intro b x y cs h hr; cases b <;> simp only [coD] at h <;> first | (cases h; done) | (obtain rfl := Option.some.inj h; exact hr) | exact hr
  | any => intro b x y cs h hr; cases b <;> simp only [coD] at h <;> first | (cases h; done) | (obtain rfl := Option.some.inj h; exact hr) | exact hr
  | nil =>
    intro b x y cs h hr
    cases b <;> simp only [coD] at h <;> first | (cases h; done) | skip
    · exact hr
    · obtain rfl := Option.some.inj h
      simp only [R] at hr ⊢
      subst hr
      exact ⟨none, 0, rfl, Nat.le_refl _, .inl trivial⟩
  | lst a ih =>
    intro b x y cs h hr
    cases b <;> simp only [coD] at h <;> first | (cases h; done) | skip
    rename_i b
    split at h
    · rename_i e; subst e; obtain rfl := Option.some.inj h; exact hr
    · cases h
  | pair a1 a2 ih1 ih2 =>
    intro b x y cs h hr
    cases b <;> simp only [coD] at h <;> first | (cases h; done) | skip
    split at h
    · rename_i u v e1 e2
      obtain rfl := Option.some.inj h
      simp only [R] at hr ⊢
      obtain ⟨c1, c2, rfl, h1, h2⟩ := hr
      exact ⟨c1, c2, rfl, ih1 e1 h1, ih2 e2 h2⟩
    · cases h
  | agg a ih =>
    intro b x y cs h hr
    cases b <;> simp only [coD] at h <;> first | (cases h; done) | skip
    simp only [R] at hr ⊢
    exact ih h hr
theorem coD_VR {a b : Ty} {x : a.D} {y : b.D} {v : Value} (h : coD a b x = some y) (hr : VR w own a x v) : VR w own b y v := by
  refine ⟨coD_R h hr.1, ?_⟩
  have h2 := hr.2
  cases a <;> cases b <;> simp only [coD] at h <;> first | (cases h; done) | exact h2 | exact h2.elim

/-! ### Rows as plain values, for who takes them -/
/-- What 'own'' may not hold: the blocks of the rows told. -/
def Free (β : Nat → Value) (m : Nat → MB) (own' : Nat → Prop) (ds : List Nat) : Prop := ∀ d ∈ ds, ∀ g, blk β m d = some g → ¬ own' g
theorem Free.sub {β : Nat → Value} {m : Nat → MB} {own' : Nat → Prop} {ds es : List Nat} (h : Free β m own' es) (hs : ∀ d ∈ ds, d ∈ es) : Free β m own' ds := fun d hd => h d (hs d hd)
theorem own_cells {w : World} {g : Nat} {e : TypeId} {pre mid post : List Value} (h : w.heap[g]? = some (.cells (pre ++ mid ++ post).toArray e (0, 0))) (j : Nat) {c : Value} (hj : mid[j]? = some c) :
    w.cell? ((⟨g, pre.length, none⟩ : Addr).add j) = some c := by
  have hj' : j < mid.length := by
    rcases Nat.lt_or_ge j mid.length with h | h
    · exact h
    · rw [List.getElem?_eq_none h] at hj; cases hj
  have : (⟨g, pre.length, none⟩ : Addr).add j = ⟨g, pre.length + j, none⟩ := by unfold Addr.add; split <;> simp_all
  rw [this, cell_of_row w g _ _ e (0, 0) h]
  simp only [List.getElem?_toArray, List.append_assoc]
  rw [List.getElem?_append_right (by omega), List.getElem?_append_left (by omega)]
  simpa using hj
/-- A row of one's own, read as a plain list by who does not take its block for owned. -/
theorem row_R {own own' : Nat → Prop} {G : Gh} {m : Nat → MB} {d : Nat} {app : Bool} {ty : Ty} {l : List ty.D} (M : MR w own G m d) (hm : m d = .own app ty l)
    (hsub : ∀ g, own' g → own g) (hfree : ∀ g, blk G.β m d = some g → ¬ own' g) : R w own' (.lst ty) l [G.β d] := by
  have A : Agree w w own own' := ⟨fun _ _ _ => rfl, fun g _ h => hsub g h⟩
  unfold MR at M; rw [hm] at M; simp only at M
  simp only [R]
  rcases M with ⟨hb, rfl, _⟩ | ⟨g, e, cap, css, post, hb, hh, hr, hc, _⟩
  · exact ⟨none, 0, by rw [hb]; rfl, Nat.le_refl _, .inl rfl⟩
  · refine ⟨_, cap, by rw [hb], hc, .inr ⟨_, css, rfl, hfree g (by unfold blk; rw [hm, hb]; rfl), hr.mono fun _ _ => R_mono A, fun j c hj => own_cells hh j hj⟩⟩
theorem view_R {own own' : Nat → Prop} {G : Gh} {m : Nat → MB} {d off n : Nat} {app : Bool} {ty : Ty} {l : List ty.D} {v : Value} (M : MR w own G m d) (hm : m d = .own app ty l) (h : AR w own G.β m (.view d off n) v)
    (hsub : ∀ g, own' g → own g) (hfree : ∀ g, blk G.β m d = some g → ¬ own' g) : R w own' (.lst ty) ((l.drop off).take n) [v] := by
  have hr := row_R M hm hsub hfree
  simp only [AR, hm] at h
  obtain ⟨hle, cap, hcap, rfl⟩ := h
  simp only [R] at hr ⊢
  obtain ⟨ao, cap0, hβ, hc0, hM⟩ := hr
  have hβ' : G.β d = .slice ao (List.length l) cap0 := by simpa using hβ
  have hlen : ((l.drop off).take n).length = n := by simp; omega
  refine ⟨_, cap, by rw [hlen], by rw [hlen]; exact hcap, ?_⟩
  by_cases hn : n = 0
  · subst hn; exact .inl (by simp)
  rcases hM with hM | ⟨a, css, rfl, ho, hr, hcell⟩
  · subst hM; simp at hle; omega
  · refine .inr ⟨a.add (off * ty.n), (css.drop off).take n, by rw [hβ']; rfl, by rw [add_block]; exact ho, All2.take n (All2.drop off hr), fun j c hj => ?_⟩
    rw [add_add]
    exact hcell _ _ (piece_get hr off n j hj)
theorem asOne_VR {own own' : Nat → Prop} {G : Gh} {m : Nat → MB} (M : ∀ d, MR w own G m d) {x : AV × MB} {v : Value} {ty : Ty} {y : ty.D} (h : LR w own G m x v) (hy : asOne x.1 x.2 ty = some y)
    (hsub : ∀ g, own' g → own g) (hfree : Free G.β m own' (rowsOf [x.1])) : VR w own' ty y v := by
  have A : Agree w w own own' := ⟨fun _ _ _ => rfl, fun g _ h => hsub g h⟩
  obtain ⟨x, b⟩ := x
  obtain ⟨h1, h2⟩ := h
  simp only at h1 h2 hy hfree
  unfold asOne at hy
  split at hy
  · exact coD_VR hy (VR_mono A h1)
  · split at hy
    · obtain rfl := Option.some.inj hy
      simp only [AR] at h1; subst h1
      exact VR_cell (by simp [R]) (by simp) (by simp)
    · cases hy
  · rename_i d
    split at hy
    · rename_i t app a l
      split at hy
      · rename_i e; subst e; obtain rfl := Option.some.inj hy
        simp only at h2
        have hv : v = G.β d := by simp only [AR] at h1; rw [← h2] at h1; exact h1
        subst hv
        exact VR_cell (row_R (M d) h2.symm hsub (hfree d (by simp [rowsOf]))) (by simp) (by simp)
      · cases hy
    · cases hy
  · rename_i d off n
    split at hy
    · rename_i t app a l
      split at hy
      · rename_i e; subst e; obtain rfl := Option.some.inj hy
        simp only at h2
        exact VR_cell (view_R (M d) h2.symm h1 hsub (hfree d (by simp [rowsOf]))) (by simp) (by simp)
      · cases hy
    · cases hy
  · cases hy
theorem one_VR {own : Nat → Prop} {β : Nat → Value} {m : Nat → MB} {x : AV} {v : Value} {ty : Ty} {y : ty.D} (h : AR w own β m x v) (hy : asOne x .none ty = some y) : VR w own ty y v := by
  unfold asOne at hy
  split at hy
  · exact coD_VR hy h
  · split at hy
    · obtain rfl := Option.some.inj hy
      simp only [AR] at h; subst h
      exact VR_cell (by simp [R]) (by simp) (by simp)
    · cases hy
  · cases ty <;> cases hy
  · cases ty <;> cases hy
  · cases hy
theorem vecL_VR {own : Nat → Prop} {β : Nat → Value} {m : Nat → MB} {ty : Ty} : ∀ {l : List AV} {xs : List ty.D} {cs : List Value}, vecL ty l = some xs → All2 (AR w own β m) l cs → All2 (VR w own ty) xs cs
  | [], xs, [], h, _ => by simp only [vecL] at h; obtain rfl := Option.some.inj h; trivial
  | x :: l, xs, c :: cs, h, ⟨hx, hr⟩ => by
    simp only [vecL] at h
    split at h
    · rename_i y ys e1 e2
      obtain rfl := Option.some.inj h
      exact ⟨one_VR hx e1, vecL_VR e2 hr⟩
    · cases h
theorem rowsOf_cons (x : AV) (l : List AV) : ∀ d ∈ rowsOf [x], d ∈ rowsOf (x :: l) := by
  intro d hd
  cases x <;> simp [rowsOf] at hd ⊢ <;> exact .inl hd
theorem rowsOf_tail (x : AV) (l : List AV) : ∀ d ∈ rowsOf l, d ∈ rowsOf (x :: l) := by
  intro d hd
  cases x <;> simp [rowsOf] at hd ⊢ <;> first | exact hd | exact .inr hd
/-- Arguments: values, one by one. -/
def ArgsR (w : World) (own : Nat → Prop) : (ty : Ty) → ty.D → List Value → Prop
  | .nil, _, vs => vs = []
  | .pair a b, x, vs => ∃ v r, vs = v :: r ∧ VR w own a x.1 v ∧ ArgsR w own b x.2 r
  | t, x, vs => ∃ v, vs = [v] ∧ VR w own t x v
theorem ArgsR_one {own : Nat → Prop} {ty : Ty} {x : ty.D} {v : Value} (h : VR w own ty x v) (hn : ty ≠ .nil) (hp : ∀ a b, ty ≠ .pair a b) : ArgsR w own ty x [v] := by
  cases ty <;> first | exact absurd rfl hn | exact absurd rfl (hp _ _) | exact ⟨v, rfl, h⟩
theorem asArgs_R {own own' : Nat → Prop} {G : Gh} {m : Nat → MB} (M : ∀ d, MR w own G m d) {st : Look} {ρ : Operand → Value} (h : ∀ x, LR w own G m (st x) (ρ x)) (hsub : ∀ g, own' g → own g) :
    ∀ (l : List Operand) {ty : Ty} {y : ty.D}, asArgs st l ty = some y → Free G.β m own' (rowsOf (l.map fun x => (st x).1)) → ArgsR w own' ty y (l.map ρ)
  | [], ty, y, hy, _ => by
    unfold asArgs at hy
    cases ty <;> first | rfl | cases hy
  | [x], ty, y, hy, hf => by
    unfold asArgs at hy
    split at hy
    · cases hy
    · rename_i hn
      have hv := asOne_VR M (h x) hy hsub hf
      refine ArgsR_one hv (fun e => by subst e; simp [Ty.isNil] at hn) (fun a b e => ?_)
      subst e
      exact hv.2
  | x :: z :: r, ty, y, hy, hf => by
    unfold asArgs at hy
    cases ty <;> first | (cases hy; done) | skip
    rename_i a b
    simp only at hy
    split at hy
    · rename_i u v e1 e2
      obtain rfl := Option.some.inj hy
      exact ⟨_, _, rfl, asOne_VR M (h x) e1 hsub (hf.sub (rowsOf_cons _ _)), asArgs_R M h hsub (z :: r) e2 (hf.sub (rowsOf_tail _ _))⟩
    · cases hy
end Go.Proofs.YtlnbcpcnpofnoaaGreatDoor.E

/- Ways of a state: rows and boxes that are new, that change, that are written no more. -/
namespace Go.Proofs.YtlnbcpcnpofnoaaGreatDoor.E
open Go Go.RowKit
set_option linter.unusedVariables false
set_option linter.unusedSimpArgs false

variable {P : Program} {X : Nat → Prop} {F : Root} {w0 : World} {n : Nat} {G : Gh} {st : St} {a : Act} {w : World}

structure Grows (w w' : World) : Prop where
  size : w.heap.size ≤ w'.heap.size
  os : w'.os = w.os
  tape : w'.tape = w.tape
  output : w'.output = w.output
  heap : ∀ g, g < w.heap.size → w'.heap[g]? = w.heap[g]?
theorem Grows.refl (w : World) : Grows w w := ⟨Nat.le_refl _, rfl, rfl, rfl, fun _ _ => rfl⟩
theorem Grows.trans {a b c : World} (h : Grows a b) (k : Grows b c) : Grows a c :=
  ⟨Nat.le_trans h.size k.size, k.os.trans h.os, k.tape.trans h.tape, k.output.trans h.output, fun g hg => (k.heap g (Nat.lt_of_lt_of_le hg h.size)).trans (h.heap g hg)⟩
theorem Grows.alloc (w : World) (o : Obj) : Grows w (w.alloc o) := ⟨by simp, rfl, rfl, rfl, fun g hg => heap_alloc_old w o g hg⟩
theorem Grows.drew (w : World) : Grows w w.drew := ⟨Nat.le_refl _, rfl, rfl, rfl, fun _ _ => rfl⟩
/-- The same but for one block. -/
structure But (g : Nat) (w w' : World) : Prop where
  size : w.heap.size ≤ w'.heap.size
  os : w'.os = w.os
  tape : w'.tape = w.tape
  output : w'.output = w.output
  heap : ∀ k, k < w.heap.size → k ≠ g → w'.heap[k]? = w.heap[k]?

theorem EnvR.grows (E : EnvR X F w0 n G st a w) {w' : World} (h : Grows w w') : EnvR X F w0 n G st a w' ∧ Agree w w' (Own X G.β st.m) (Own X G.β st.m) :=
  E.grow w' h.size h.os h.tape h.output h.heap
theorem EnvR.st_eta (E : EnvR X F w0 n G ⟨st.s, st.m⟩ a w) : EnvR X F w0 n G st a w := E

theorem put_set (st : St) (dst : Option Nat) (d : Nat) (v : AV) (b : MB) : (st.put dst v).set d b = (⟨st.s, upd st.m d b⟩ : St).put dst v := by cases st; cases dst <;> rfl
theorem set_eq (st : St) (d : Nat) (b : MB) : st.set d b = ⟨st.s, upd st.m d b⟩ := by cases st; rfl
theorem put_kill (st : St) (dst : Option Nat) (v : AV) : ∀ ds : List Nat, (st.put dst v).kill ds = (st.kill ds).put dst v
  | [] => rfl
  | d :: ds => by
    simp only [St.kill]
    rw [put_kill st dst v ds, put_set, St.put_m, set_eq]
/-- A row in memory that is nobody's yet. -/
def NewRow (w w' : World) (own : Nat → Prop) (ty : Ty) (l : List ty.D) (v : Value) : Prop :=
  (v = .slice none 0 0 ∧ l = []) ∨ ∃ (g : Nat) (e : TypeId) (cap : Nat) (css : List (List Value)) (post : List Value), v = .slice (some ⟨g, 0, none⟩) (List.length l) cap ∧ w.heap.size ≤ g ∧
    w'.heap[g]? = some (.cells (css.flatten ++ post).toArray e (0, 0)) ∧ All2 (R w' (fun b => own b ∨ b = g) ty) l css ∧ List.length l ≤ cap ∧ css.flatten.length + post.length = cap * ty.n ∧ cap ≤ maxLen
theorem Own_upd_new {β : Nat → Value} {m : Nat → MB} {d : Nat} {v : Value} {b : MB} (hd : dead (m d)) {g : Nat} (h : Own X (upd β d v) (upd m d b) g) :
    Own X β m g ∨ blk (upd β d v) (upd m d b) d = some g := by
  rcases h with h | ⟨e, h⟩
  · exact .inl (.inl h)
  · by_cases he : e = d
    · subst he; exact .inr h
    · refine .inl (.inr ⟨e, ?_⟩)
      unfold blk at h ⊢
      rwa [upd_other _ _ he, upd_other _ _ he] at h
theorem blk_row {β : Nat → Value} {m : Nat → MB} {d : Nat} {app : Bool} {ty : Ty} {l : List ty.D} (hm : m d = .own app ty l) : blk β m d = (headOf (β d)).map (·.block) := by unfold blk; rw [hm]
theorem blk_box {β : Nat → Value} {m : Nat → MB} {d : Nat} {l : List AV} (hm : m d = .box l) : blk β m d = (headOf (β d)).map (·.block) := by unfold blk; rw [hm]
theorem EnvR.newRow (E : EnvR X F w0 n G st a w) {w' : World} (hg : Grows w w') {d : Nat} (hd : d < n) (hm : st.m d = .none) {ty : Ty} {l : List ty.D} {v : Value}
    (h : NewRow w w' (Own X G.β st.m) ty l v) : ∃ G', EnvR X F w0 n G' ((st.put (some d) (.row d)).set d (.own true ty l)) (a.put (some d) v) w' := by
  have hdead : dead (st.m d) := by rw [hm]; trivial
  have hmd : upd st.m d (.own true ty l) d = .own true ty l := upd_same _ _ _
  have hβd : upd G.β d v d = v := upd_same _ _ _
  obtain ⟨E', _, _⟩ := E.stepC (fun e => e = d) ⟨upd G.β d v, upd G.π d ([], [])⟩ (upd st.m d (.own true ty l)) w'
    (fun e he => ⟨upd_other _ _ he, upd_other _ _ he, upd_other _ _ he⟩)
    (fun e he => by
      by_cases h : e = d
      · subst h; exact absurd hdead he
      · exact upd_other _ _ h)
    (fun e => by
      by_cases h : e = d
      · subst h; rw [hm]; trivial
      · rw [upd_other _ _ h]; exact Later.refl _)
    hg.size hg.os hg.tape hg.output (fun g hg' _ => hg.heap g hg')
    (fun e g he hb => by
      subst he
      have hb : (headOf (upd G.β e v e)).map (·.block) = some g := by rw [← blk_row (β := upd G.β e v) hmd]; exact hb
      rw [hβd] at hb
      rcases h with ⟨rfl, _⟩ | ⟨g', _, _, _, _, rfl, hge, _⟩
      · simp [headOf] at hb
      · simp [headOf] at hb; subst hb; exact .inr hge)
    (fun e e' g he he' _ _ => he.trans he'.symm)
    (fun e he hr => by subst he; rw [hmd] at hr; cases hr)
    (fun e he A hAR => by
      subst he
      unfold MR
      rw [hmd]
      simp only
      rw [hβd, upd_same]
      rcases h with ⟨hv, hl⟩ | ⟨g, e', cap, css, post, hv, hge, hh, hr, hc, hs, hcm⟩
      · exact .inl ⟨hv, hl, trivial⟩
      · refine .inr ⟨g, e', cap, css, post, hv, by simpa using hh, hr.mono fun x cs hx => ?_, hc, by rw [if_pos trivial]; exact ⟨rfl, hs, hcm⟩⟩
        refine R_mono (own := fun b => Own X G.β st.m b ∨ b = g) ⟨fun _ _ _ => rfl, fun b hb ho => ?_⟩ hx
        rcases Own_upd_new hdead ho with ho | ho
        · exact .inl ho
        · rw [blk_row hmd, hβd, hv] at ho; simp [headOf] at ho; exact .inr ho.symm)
  refine ⟨⟨upd G.β d v, upd G.π d ([], [])⟩, ?_⟩
  rw [put_set]
  exact E'.put (some d) (fun _ h => by cases h; exact hd) (v := .row d) (x := v) (by simp only [AR]; rw [hmd]; exact hβd.symm)
theorem EnvR.newBox (E : EnvR X F w0 n G st a w) {w' : World} (hg : Grows w w') {d : Nat} (hd : d < n) (hm : st.m d = .none) {l : List AV} {e : TypeId} {cs : List Value} {g : Nat}
    (hge : w.heap.size ≤ g) (hh : w'.heap[g]? = some (.cells cs.toArray e (0, 0))) (hr : All2 (AR w (Own X G.β st.m) G.β st.m) l cs) (h1 : ∀ c ∈ cs, c.oneCell' = true) :
    ∃ G', EnvR X F w0 n G' ((st.put (some d) (.ptr d 0)).set d (.box l)) (a.put (some d) (.pointer (some ⟨g, 0, none⟩))) w' := by
  have hdead : dead (st.m d) := by rw [hm]; trivial
  have hmd : upd st.m d (.box l) d = .box l := upd_same _ _ _
  have hβd : upd G.β d (.pointer (some ⟨g, 0, none⟩)) d = .pointer (some ⟨g, 0, none⟩) := upd_same _ _ _
  obtain ⟨E', _, _⟩ := E.stepC (fun e => e = d) ⟨upd G.β d (.pointer (some ⟨g, 0, none⟩)), upd G.π d ([], [])⟩ (upd st.m d (.box l)) w'
    (fun e he => ⟨upd_other _ _ he, upd_other _ _ he, upd_other _ _ he⟩)
    (fun e he => by
      by_cases h : e = d
      · subst h; exact absurd hdead he
      · exact upd_other _ _ h)
    (fun e => by
      by_cases h : e = d
      · subst h; rw [hm]; trivial
      · rw [upd_other _ _ h]; exact Later.refl _)
    hg.size hg.os hg.tape hg.output (fun g hg' _ => hg.heap g hg')
    (fun e g' he hb => by
      subst he
      have hb : (headOf (upd G.β e (.pointer (some ⟨g, 0, none⟩)) e)).map (·.block) = some g' := by rw [← blk_box (β := upd G.β e (.pointer (some ⟨g, 0, none⟩))) hmd]; exact hb
      rw [hβd] at hb
      simp [headOf] at hb; subst hb; exact .inr hge)
    (fun e e' g he he' _ _ => he.trans he'.symm)
    (fun e he hr => by subst he; rw [hmd] at hr; cases hr)
    (fun e he A hAR => by
      subst he
      unfold MR
      rw [hmd]
      simp only
      rw [hβd, upd_same]
      exact ⟨g, _, cs, rfl, by simpa using hh, hr.mono fun _ _ => hAR, h1⟩)
  refine ⟨⟨upd G.β d (.pointer (some ⟨g, 0, none⟩)), upd G.π d ([], [])⟩, ?_⟩
  rw [put_set]
  exact E'.put (some d) (fun _ h => by cases h; exact hd) (v := .ptr d 0) (x := .pointer (some ⟨g, 0, none⟩)) (by simp only [AR]; rw [hmd]; exact ⟨_, hβd, rfl, rfl⟩)

/-- A row or a box holds something else from here on. -/
def NewAt (w w' : World) (own : Nat → Prop) (G : Gh) (m : Nat → MB) (d : Nat) : MB → Prop
  | .box l => (∃ l0, m d = .box l0) ∧ ∃ (g : Nat) (e : TypeId) (cs : List Value), G.β d = .pointer (some ⟨g, (G.π d).1.length, none⟩) ∧ But g w w' ∧
      w'.heap[g]? = some (.cells ((G.π d).1 ++ cs ++ (G.π d).2).toArray e (0, 0)) ∧ All2 (AR w' own G.β m) l cs ∧ ∀ c ∈ cs, c.oneCell' = true
  | .own app ty l => (∃ l0 : List ty.D, m d = .own app ty l0 ∧ List.length l0 = List.length l) ∧ ∃ (g : Nat) (e : TypeId) (cap : Nat) (css : List (List Value)) (post : List Value),
      G.β d = .slice (some ⟨g, (G.π d).1.length, none⟩) (List.length l) cap ∧ But g w w' ∧
      w'.heap[g]? = some (.cells ((G.π d).1 ++ css.flatten ++ post).toArray e (0, 0)) ∧ All2 (R w' own ty) l css ∧ List.length l ≤ cap ∧
      (if app = true then (G.π d).1 = [] ∧ css.flatten.length + post.length = cap * ty.n ∧ cap ≤ maxLen else post = (G.π d).2)
  | _ => False
theorem blk_upd_same {β : Nat → Value} {m : Nat → MB} {d : Nat} {b : MB} (h : blk β (upd m d b) d = blk β m d) : ∀ e, blk β (upd m d b) e = blk β m e := by
  intro e
  by_cases he : e = d
  · subst he; exact h
  · unfold blk; rw [upd_other _ _ he]
theorem EnvR.newAt (E : EnvR X F w0 n G st a w) {w' : World} {d : Nat} {b : MB} (h : NewAt w w' (Own X G.β st.m) G st.m d b) :
    EnvR X F w0 n G (st.set d b) a w' ∧ Agree w w' (Own X G.β st.m) (Own X G.β (upd st.m d b)) ∧ (∀ g, Own X G.β (upd st.m d b) g ↔ Own X G.β st.m g) ∧ ∀ e, Later (st.m e) (upd st.m d b e) := by
  have key : ∃ g, But g w w' ∧ blk G.β st.m d = some g ∧ blk G.β (upd st.m d b) d = some g ∧ Later (st.m d) b := by
    unfold NewAt at h
    cases b <;> simp only at h <;> try (exact h.elim)
    · obtain ⟨⟨l0, hm⟩, g, e, cs, hβ, hbut, _⟩ := h
      refine ⟨g, hbut, ?_, ?_, by rw [hm]; trivial⟩
      · rw [blk_box hm, hβ]; rfl
      · rw [blk_box (upd_same _ _ _), hβ]; rfl
    · obtain ⟨⟨l0, hm, hl⟩, g, e, cap, css, post, hβ, hbut, _⟩ := h
      refine ⟨g, hbut, ?_, ?_, by rw [hm]; exact ⟨rfl, hl⟩⟩
      · rw [blk_row hm, hβ]; rfl
      · rw [blk_row (upd_same _ _ _), hβ]; rfl
  obtain ⟨g, hbut, hb1, hb2, hl⟩ := key
  have hall := blk_upd_same (hb2.trans hb1.symm)
  have hown : ∀ k, Own X G.β (upd st.m d b) k ↔ Own X G.β st.m k := by
    intro k
    unfold Own
    simp only [hall]
  have hlat : ∀ e, Later (st.m e) (upd st.m d b e) := by
    intro e
    by_cases he : e = d
    · subst he; rw [upd_same]; exact hl
    · rw [upd_other _ _ he]; exact Later.refl _
  have A' : Agree w' w' (Own X G.β st.m) (Own X G.β (upd st.m d b)) := ⟨fun _ _ _ => rfl, fun k _ h => (hown k).1 h⟩
  obtain ⟨E', A, hAR⟩ := E.stepC (fun e => e = d) G (upd st.m d b) w' (fun e he => ⟨upd_other _ _ he, rfl, rfl⟩) (fun _ _ => rfl) hlat
    hbut.size hbut.os hbut.tape hbut.output
    (fun k hk hc => hbut.heap k hk fun e => hc d rfl (by rw [hb1, e]))
    (fun e k he hk => by subst he; exact .inl ⟨_, rfl, by rw [hall] at hk; exact hk⟩)
    (fun e e' k he he' _ _ => he.trans he'.symm)
    (fun e he hr => by
      subst he
      rw [upd_same] at hr
      unfold NewAt at h
      cases b <;> simp only at h <;> first | (exact h.elim) | (cases hr; done) | skip
      rename_i app ty l
      obtain ⟨⟨l0, hm, _⟩, _⟩ := h
      exact E.root _ (by rw [hm]; cases app <;> first | rfl | cases hr))
    (fun e he A hAR => by
      subst he
      unfold MR
      rw [upd_same]
      unfold NewAt at h
      cases b <;> simp only at h ⊢ <;> try (exact h.elim)
      · obtain ⟨_, g', e, cs, hβ, _, hh, hr, h1⟩ := h
        exact ⟨g', e, cs, hβ, hh, hr.mono fun _ _ => AR_mono A' (fun _ _ => rfl) hlat, h1⟩
      · obtain ⟨_, g', e, cap, css, post, hβ, _, hh, hr, hc, happ⟩ := h
        exact .inr ⟨g', e, cap, css, post, hβ, hh, hr.mono fun _ _ => R_mono A', hc, happ⟩)
  exact ⟨E', A, hown, hlat⟩
/-- A row is written no more. -/
theorem EnvR.freeze (E : EnvR X F w0 n G st a w) (d : Nat) : EnvR X F w0 n G (st.set d (st.m d).freeze) a w ∧
    (∀ e g, blk G.β (upd st.m d (st.m d).freeze) e = some g → blk G.β st.m e = some g) ∧ (∀ g, blk G.β st.m d = some g → ¬ Own X G.β (upd st.m d (st.m d).freeze) g) := by
  have hnone : blk G.β (upd st.m d (st.m d).freeze) d = none := by
    unfold blk; rw [upd_same]; cases st.m d <;> rfl
  have hsubb : ∀ e g, blk G.β (upd st.m d (st.m d).freeze) e = some g → blk G.β st.m e = some g := by
    intro e g h
    by_cases he : e = d
    · subst he; rw [hnone] at h; cases h
    · unfold blk at h ⊢; rwa [upd_other _ _ he] at h
  have hsub : ∀ g, Own X G.β (upd st.m d (st.m d).freeze) g → Own X G.β st.m g := by
    intro g h
    rcases h with h | ⟨e, h⟩
    · exact .inl h
    · exact .inr ⟨e, hsubb e g h⟩
  have hfree : ∀ g, blk G.β st.m d = some g → ¬ Own X G.β (upd st.m d (st.m d).freeze) g := by
    intro g hg h
    rcases h with h | ⟨e, h⟩
    · exact E.notX d g hg h
    · by_cases he : e = d
      · subst he; rw [hnone] at h; cases h
      · unfold blk at h; rw [upd_other _ _ he] at h
        exact he (E.disj e d g h hg)
  have hlat : ∀ e, Later (st.m e) (upd st.m d (st.m d).freeze e) := by
    intro e
    by_cases he : e = d
    · subst he; rw [upd_same]; cases st.m e <;> simp [Later, MB.freeze]
    · rw [upd_other _ _ he]; exact Later.refl _
  obtain ⟨E', _, _⟩ := E.stepC (fun e => e = d) G (upd st.m d (st.m d).freeze) w (fun e he => ⟨upd_other _ _ he, rfl, rfl⟩) (fun _ _ => rfl) hlat
    (Nat.le_refl _) rfl rfl rfl (fun _ _ _ => rfl)
    (fun e k he hk => by subst he; rw [hnone] at hk; cases hk)
    (fun e e' k he he' _ _ => he.trans he'.symm)
    (fun e he hr => by subst he; rw [upd_same] at hr; cases hm : st.m e <;> rw [hm] at hr <;> cases hr)
    (fun e he A hAR => by
      subst he
      have hM := E.mems e
      unfold MR
      rw [upd_same]
      have hs' := hsub
      have hf' := hfree
      cases hm : st.m e <;> simp only [MB.freeze] <;> rw [hm] at hs' hf'
      · exact row_R hM hm hs' hf'
      · have : MR w (Own X G.β st.m) G st.m e := hM
        unfold MR at this; rw [hm] at this; simp only at this
        exact R_mono ⟨fun _ _ _ => rfl, fun g _ h => hs' g h⟩ this)
  exact ⟨E', hsubb, hfree⟩
theorem EnvR.kill (E : EnvR X F w0 n G st a w) : ∀ ds : List Nat, EnvR X F w0 n G (st.kill ds) a w ∧ (∀ e g, blk G.β (st.kill ds).m e = some g → blk G.β st.m e = some g) ∧ Free G.β st.m (Own X G.β (st.kill ds).m) ds
  | [] => ⟨E, fun _ _ h => h, fun _ h => by cases h⟩
  | d :: ds => by
    obtain ⟨E1, hs1, hf1⟩ := EnvR.kill E ds
    obtain ⟨E2, hs2, hf2⟩ := E1.freeze d
    refine ⟨E2, fun e g h => hs1 e g (hs2 e g h), ?_⟩
    intro e he g hg hown
    have h1 : Own X G.β (st.kill ds).m g := by
      rcases hown with h | ⟨k, h⟩
      · exact .inl h
      · exact .inr ⟨k, hs2 k g h⟩
    rcases List.mem_cons.1 he with rfl | he
    · by_cases hb : blk G.β (st.kill ds).m e = some g
      · exact hf2 g hb hown
      · rcases h1 with h | ⟨k, h⟩
        · exact E.notX e g hg h
        · have := E.disj k e g (hs1 k g h) hg
          subst this
          exact hb h
    · exact hf1 e he g hg h1
theorem Own_kill {β : Nat → Value} {m m' : Nat → MB} (h : ∀ e g, blk β m' e = some g → blk β m e = some g) {g : Nat} (ho : Own X β m' g) : Own X β m g := by
  rcases ho with ho | ⟨k, ho⟩
  · exact .inl ho
  · exact .inr ⟨k, h k g ho⟩
end Go.Proofs.YtlnbcpcnpofnoaaGreatDoor.E

/- What has to be shown of an operation, and that it is enough. -/
namespace Go.Proofs.YtlnbcpcnpofnoaaGreatDoor.E
open Go Go.RowKit
set_option linter.unusedVariables false
set_option linter.unusedSimpArgs false

variable {P : Program} {X : Nat → Prop} {F : Root} {w0 : World} {n : Nat} {G : Gh} {st : St} {a : Act} {w : World}

def OutR (w : World) (own : Nat → Prop) (tup : Bool) (res : Ty) (r : res.D) (v : Value) : Prop := match tup with
  | true => ∃ vs : List Value, v = .tuple vs.toArray ∧ TupR w own res r vs
  | false => VR w own res r v
def OutIO (w : World) (own : Nat → Prop) (res : Ty) (r : res.D) (v : Value) : Prop := res.isNil = true ∨ VR w own res r v
theorem OutR.av {own : Nat → Prop} {β : Nat → Value} {m : Nat → MB} {tup : Bool} {res : Ty} {r : res.D} {v : Value} (h : OutR w own tup res r v) : AR w own β m (outAV tup res r) v := by
  cases tup
  · exact h
  · exact h
theorem OutIO.av {own : Nat → Prop} {β : Nat → Value} {m : Nat → MB} {res : Ty} {r : res.D} {v : Value} (h : OutIO w own res r v) : AR w own β m (outIO res r) v := by
  unfold outIO
  rcases h with h | h
  · rw [h]; trivial
  · cases res.isNil
    · exact h
    · trivial
/-- Types without lists: what they hold does not hang on memory. -/
theorem R_flat {w w' : World} {own own' : Nat → Prop} : ∀ {t : Ty} {x : t.D} {cs : List Value}, t.hasLst = false → R w own t x cs → R w' own' t x cs
  | .int _, _, _, _, h => h
  | .bool, _, _, _, h => h
  | .str, _, _, _, h => h
  | .nil, _, _, _, h => h
  | .any, _, _, _, h => h
  | .lst _, _, _, hl, _ => by simp [Ty.hasLst] at hl
  | .pair a b, _, _, hl, h => by
    simp only [Ty.hasLst, Bool.or_eq_false_iff] at hl
    simp only [R] at h ⊢
    obtain ⟨c1, c2, rfl, h1, h2⟩ := h
    exact ⟨c1, c2, rfl, R_flat hl.1 h1, R_flat hl.2 h2⟩
  | .agg a, _, _, hl, h => by simp only [R] at h ⊢; exact R_flat (t := a) hl h
theorem VR_flat {w w' : World} {own own' : Nat → Prop} {t : Ty} {x : t.D} {v : Value} (ht : t.hasLst = false) (h : VR w own t x v) : VR w' own' t x v := ⟨R_flat ht h.1, h.2⟩

def Enters (P : Program) (o : Oper) (a : Act) (w : World) (Post : Value → World → Prop) : Prop :=
  ∃ (f : FuncId) (args : Array Value), (execOp a.eval o).run P w = .ok (.enter f args) w ∧ Calls P f args w fun e w' => ∃ v, e = .returned v ∧ Post v w'
def OpOK (P : Program) (X : Nat → Prop) (G : Gh) (st : St) (o : Oper) (a : Act) (w : World) : Res → Prop
  | .fail => True
  | .put v => ∃ x w', (execOp a.eval o).run P w = .ok (.value x) w' ∧ Grows w w' ∧ AR w' (Own X G.β st.m) G.β st.m v x
  | .ite p _ r => p → OpOK P X G st o a w r
  | .call res tup m kill => ∀ r, m r → Enters P o a w fun v w' => Grows w w' ∧ OutR w' (Own X G.β (st.kill kill).m) tup res r v
  | .callOwn ty m => ∀ r, m r → Enters P o a w fun v w' => Grows w w' ∧ NewRow w w' (Own X G.β st.m) ty r v
  | .callRow ty res m d app f => res.hasLst = false ∧ ∀ r, m r → Enters P o a w fun v w' => NewAt w w' (Own X G.β st.m) G st.m d (.own app ty (f r.2)) ∧ OutIO w' (Own X G.β st.m) res r.1 v
  | .callBox ty res m d off l => res.hasLst = false ∧ ∀ r, m r → Enters P o a w fun v w' => NewAt w w' (Own X G.β st.m) G st.m d (.box (l.set off (.t ty r.2))) ∧ OutIO w' (Own X G.β st.m) res r.1 v
  | .alloc true (.box l) => ∃ (g : Nat) (e : TypeId) (cs : List Value) (w' : World), (execOp a.eval o).run P w = .ok (.value (.pointer (some ⟨g, 0, none⟩))) w' ∧ Grows w w' ∧ w.heap.size ≤ g ∧
      w'.heap[g]? = some (.cells cs.toArray e (0, 0)) ∧ All2 (AR w (Own X G.β st.m) G.β st.m) l cs ∧ ∀ c ∈ cs, c.oneCell' = true
  | .alloc false (.own true ty l) => ∃ x w', (execOp a.eval o).run P w = .ok (.value x) w' ∧ Grows w w' ∧ NewRow w w' (Own X G.β st.m) ty l x
  | .alloc _ _ => False
  | .app base ty l kill => ∃ x w', (execOp a.eval o).run P w = .ok (.value x) w' ∧ w.heap.size ≤ w'.heap.size ∧ w'.os = w.os ∧ w'.tape = w.tape ∧ w'.output = w.output ∧
      (∀ k, k < w.heap.size → (∀ d, base = some d → blk G.β st.m d ≠ some k) → w'.heap[k]? = w.heap[k]?) ∧ (∀ d, base = some d → d ∉ kill ∧ ∃ ty l, st.m d = .own true ty l) ∧
      ((x = .slice none 0 0 ∧ l = []) ∨ ∃ (g : Nat) (e : TypeId) (cap : Nat) (css : List (List Value)) (post : List Value), x = .slice (some ⟨g, 0, none⟩) (List.length l) cap ∧
        (w.heap.size ≤ g ∨ ∃ d, base = some d ∧ blk G.β st.m d = some g) ∧
        w'.heap[g]? = some (.cells (css.flatten ++ post).toArray e (0, 0)) ∧ All2 (R w (Own X G.β (st.kill kill).m) ty) l css ∧ List.length l ≤ cap ∧ css.flatten.length + post.length = cap * ty.n ∧ cap ≤ maxLen)
  | .upd d b => ∃ w', (execOp a.eval o).run P w = .ok .skip w' ∧ NewAt w w' (Own X G.β st.m) G st.m d b

theorem kill_other (st : St) : ∀ (ds : List Nat) {e : Nat}, e ∉ ds → (st.kill ds).m e = st.m e
  | [], _, _ => rfl
  | d :: ds, e, h => by
    simp only [List.mem_cons, not_or] at h
    simp only [St.kill, set_eq]
    rw [upd_other _ _ h.1]; exact kill_other st ds h.2
theorem kill_none (st : St) : ∀ (ds : List Nat) {e : Nat}, st.m e = .none → (st.kill ds).m e = .none
  | [], _, h => h
  | d :: ds, e, hm => by
    simp only [St.kill, set_eq]
    by_cases he : e = d
    · subst he
      rw [upd_same, kill_none st ds hm]; rfl
    · rw [upd_other _ _ he]
      exact kill_none st ds hm
theorem force_eq {ρ : Type} (v : AV) (K : AV → M ρ) : v.force K = K v := by cases v <;> rfl
theorem forceL_eq {ρ : Type} : ∀ (l : List AV) (K : List AV → M ρ), forceL l K = K l
  | [], _ => rfl
  | v :: l, K => by simp only [forceL]; rw [force_eq, forceL_eq l]
theorem MBforce_eq {ρ : Type} (b : MB) (K : MB → M ρ) : b.force K = K b := by
  cases b <;> first | rfl | exact forceL_eq _ _

/-- Where an operation goes: some state that the evaluator goes on with. -/
def Goes (X : Nat → Prop) (F : Root) (w0 : World) (n : Nat) (K : St → Prop) (a : Act) (w : World) : Prop := ∃ G st, EnvR X F w0 n G st a w ∧ K st
theorem wp_value {o : Oper} {x : Value} {w' : World} {K : Act → World → Prop} {Q : Exit → Act → World → Prop} (h : (execOp a.eval o).run P w = .ok (.value x) w') (hk : K (a.put o.dst x) w') : o.wp P a w K Q := by
  unfold Oper.wp; rw [h]; exact hk
theorem wp_skip' {o : Oper} {w' : World} {K : Act → World → Prop} {Q : Exit → Act → World → Prop} (h : (execOp a.eval o).run P w = .ok .skip w') (hk : K (a.put o.dst undef) w') : o.wp P a w K Q := by
  unfold Oper.wp; rw [h]; exact hk
theorem wp_enters {o : Oper} {Post : Value → World → Prop} {K : Act → World → Prop} {Q : Exit → Act → World → Prop} (h : Enters P o a w Post) (hk : ∀ v w', Post v w' → K (a.put o.dst v) w') : o.wp P a w K Q := by
  obtain ⟨f, args, h, hc⟩ := h
  unfold Oper.wp; rw [h]
  exact hc.mono fun e w' ⟨v, he, hp⟩ => by subst he; exact hk v w' hp
theorem runRes_ok (E : EnvR X F w0 n G st a w) {o : Oper} (hd : ∀ d, o.dst = some d → d < n) {ρ : Type} {K : St → M ρ} {r : ρ} {Q : Exit → Act → World → Prop} :
    ∀ {res : Res}, OpOK P X G st o a w res → runRes o.dst st K res r → o.wp P a w (Goes X F w0 n fun st => K st r) Q
  | .fail, _, h => h.elim
  | .put v, ok, h => by
    obtain ⟨x, w', hr, hg, hv⟩ := ok
    simp only [runRes, force_eq] at h
    exact wp_value hr ⟨G, _, (E.grows hg).1.put o.dst hd hv, h⟩
  | .ite p d res, ok, h => by
    simp only [runRes] at h
    by_cases hp : p
    · rw [if_pos hp] at h; exact runRes_ok E hd (ok hp) h
    · rw [if_neg hp] at h; exact h.elim
  | .call res tup m kill, ok, h => by
    simp only [runRes] at h
    obtain ⟨y, hy, h⟩ := h
    refine wp_enters (ok y hy) fun v w' ⟨hg, hv⟩ => ?_
    obtain ⟨E1, _, _⟩ := E.kill kill
    rw [put_kill] at h
    exact ⟨G, _, (E1.grows hg).1.put o.dst hd hv.av, h⟩
  | .callOwn ty m, ok, h => by
    simp only [runRes] at h
    cases hdst : o.dst with
    | none => rw [hdst] at h; exact h.elim
    | some d =>
      rw [hdst] at h; simp only at h
      cases hm : st.m d <;> rw [hm] at h <;> simp only at h <;> first | (exact h.elim) | skip
      obtain ⟨y, hy, h⟩ := h
      refine wp_enters (ok y hy) fun v w' ⟨hg, hv⟩ => ?_
      obtain ⟨G', E'⟩ := E.newRow hg (hd d hdst) hm hv
      rw [hdst]
      exact ⟨G', _, E', h⟩
  | .callRow ty res m d app f, ok, h => by
    simp only [runRes] at h
    obtain ⟨y, hy, h⟩ := h
    refine wp_enters (ok.2 y hy) fun v w' ⟨hn, hv⟩ => ?_
    obtain ⟨E', A, hown, _⟩ := E.newAt hn
    rw [set_eq] at E'
    rw [put_set] at h
    refine ⟨G, _, E'.put o.dst hd ?_, h⟩
    have hv' : OutIO w' (Own X G.β (upd st.m d (.own app ty (f y.2)))) res y.1 v := hv.imp id (VR_flat ok.1)
    exact hv'.av
  | .callBox ty res m d off l, ok, h => by
    simp only [runRes, forceL_eq] at h
    obtain ⟨y, hy, h⟩ := h
    refine wp_enters (ok.2 y hy) fun v w' ⟨hn, hv⟩ => ?_
    obtain ⟨E', A, hown, _⟩ := E.newAt hn
    rw [set_eq] at E'
    rw [put_set] at h
    refine ⟨G, _, E'.put o.dst hd ?_, h⟩
    have hv' : OutIO w' (Own X G.β (upd st.m d (.box (l.set off (.t ty y.2))))) res y.1 v := hv.imp id (VR_flat ok.1)
    exact hv'.av
  | .alloc isP b, ok, h => by
    simp only [runRes] at h
    cases hdst : o.dst with
    | none => rw [hdst] at h; exact h.elim
    | some d =>
      rw [hdst] at h; simp only at h
      cases hm : st.m d <;> rw [hm] at h <;> simp only at h <;> first | (exact h.elim) | skip
      rw [MBforce_eq] at h
      cases isP <;> cases b <;> simp only [OpOK] at ok h <;> first | (exact ok.elim) | skip
      · rename_i app ty l
        cases app <;> simp only [OpOK] at ok
        obtain ⟨x, w', hr, hg, hn⟩ := ok
        obtain ⟨G', E'⟩ := E.newRow hg (hd d hdst) hm hn
        refine wp_value hr ?_
        rw [hdst]
        exact ⟨G', _, E', h⟩
      · obtain ⟨g, e, cs, w', hr, hg, hge, hh, hc, h1⟩ := ok
        obtain ⟨G', E'⟩ := E.newBox hg (hd d hdst) hm hge hh hc h1
        refine wp_value hr ?_
        rw [hdst]
        exact ⟨G', _, E', h⟩
  | .app base ty l kill, ok, h => by
    simp only [runRes] at h
    obtain ⟨x, w', hr, hsize, hos, htape, hout, hheap, hbase, hx⟩ := ok
    cases hdst : o.dst with
    | none => rw [hdst] at h; exact h.elim
    | some d =>
      rw [hdst] at h; simp only at h
      cases hm : st.m d <;> rw [hm] at h <;> simp only at h <;> first | (exact h.elim) | skip
      obtain ⟨E1, hsub, hfree⟩ := E.kill kill
      have hkm : ∀ e, e ∉ kill → (st.kill kill).m e = st.m e := fun e he => kill_other st kill he
      have hkd : (st.kill kill).m d = .none := kill_none st kill hm
      have hlose : ∀ e, ((st.kill kill).lose base).m e = if base = some e then .gone else (st.kill kill).m e := by
        intro e
        cases base with
        | none => simp [St.lose]
        | some b =>
          simp only [St.lose, set_eq]
          by_cases he : b = e
          · subst he; simp [upd_same]
          · rw [upd_other _ _ (Ne.symm he), if_neg (by simpa using he)]
      have hbd : base ≠ some d := by
        intro e
        obtain ⟨_, _, _, h⟩ := hbase d e
        rw [hm] at h; cases h
      have hls : ((st.kill kill).lose base).s = (st.kill kill).s := by cases base <;> simp [St.lose, set_eq]
      have hmd : upd ((st.kill kill).lose base).m d (.own true ty l) d = .own true ty l := upd_same _ _ _
      have hβd : upd G.β d x d = x := upd_same _ _ _
      have hm' : ∀ e, e ≠ d → base ≠ some e → upd ((st.kill kill).lose base).m d (.own true ty l) e = (st.kill kill).m e := by
        intro e he hb
        rw [upd_other _ _ he, hlose, if_neg hb]
      have hbk : ∀ b, base = some b → blk G.β (st.kill kill).m b = blk G.β st.m b := by
        intro b hb
        unfold blk; rw [hkm b (hbase b hb).1]
      have hgone : ∀ b, base = some b → upd ((st.kill kill).lose base).m d (.own true ty l) b = .gone := by
        intro b hb
        rw [upd_other _ _ (fun e => hbd (by rw [hb, e])), hlose, if_pos hb]
      have hown' : ∀ k, Own X (upd G.β d x) (upd ((st.kill kill).lose base).m d (.own true ty l)) k → Own X G.β (st.kill kill).m k ∨ (headOf x).map (·.block) = some k := by
        intro k hk
        rcases hk with hk | ⟨e, hk⟩
        · exact .inl (.inl hk)
        · by_cases he : e = d
          · subst he; rw [blk_row hmd, hβd] at hk; exact .inr hk
          · by_cases hb : base = some e
            · unfold blk at hk; rw [hgone e hb] at hk; cases hk
            · refine .inl (.inr ⟨e, ?_⟩)
              unfold blk at hk ⊢
              rwa [hm' e he hb, upd_other _ _ he] at hk
      obtain ⟨E2, _, _⟩ := E1.stepC (fun e => e = d ∨ base = some e) ⟨upd G.β d x, upd G.π d ([], [])⟩ (upd ((st.kill kill).lose base).m d (.own true ty l)) w'
        (fun e he => ⟨hm' e (fun h => he (.inl h)) (fun h => he (.inr h)), upd_other _ _ (fun h => he (.inl h)), upd_other _ _ (fun h => he (.inl h))⟩)
        (fun e he => by
          by_cases hed : e = d
          · subst hed; rw [hkd] at he; exact absurd trivial he
          · exact upd_other _ _ hed)
        (fun e => by
          by_cases hed : e = d
          · subst hed; rw [hkd]; trivial
          · by_cases hb : base = some e
            · rw [hgone e hb]
              obtain ⟨h1, _, _, h2⟩ := hbase e hb
              rw [hkm e h1, h2]; trivial
            · rw [hm' e hed hb]; exact Later.refl _)
        hsize hos htape hout
        (fun k hk hc => hheap k hk fun b hb => by rw [← hbk b hb]; exact hc b (.inr hb))
        (fun e k he hk => by
          rcases he with rfl | hb
          · have hk : (headOf (upd G.β e x e)).map (·.block) = some k := by rw [← blk_row (β := upd G.β e x) hmd]; exact hk
            rw [hβd] at hk
            rcases hx with ⟨rfl, _⟩ | ⟨g, _, _, _, _, rfl, hg, _⟩
            · simp [headOf] at hk
            · simp [headOf] at hk; subst hk
              rcases hg with hg | ⟨b, hb, hg⟩
              · exact .inr hg
              · exact .inl ⟨b, .inr hb, by rw [hbk b hb]; exact hg⟩
          · have hk : blk (upd G.β d x) (upd ((st.kill kill).lose base).m d (.own true ty l)) e = some k := hk
            unfold blk at hk; rw [hgone e hb] at hk; cases hk)
        (fun e e' k he he' hk hk' => by
          have key : ∀ e, (e = d ∨ base = some e) → blk (upd G.β d x) (upd ((st.kill kill).lose base).m d (.own true ty l)) e = some k → e = d := by
            intro e he hk
            rcases he with he | hb
            · exact he
            · unfold blk at hk; rw [hgone e hb] at hk; cases hk
          rw [key e he hk, key e' he' hk'])
        (fun e he hr => by
          have hr : isRoot (upd ((st.kill kill).lose base).m d (.own true ty l) e) = true := hr
          by_cases hed : e = d
          · subst hed; rw [hmd] at hr; cases hr
          · rw [hgone e (he.resolve_left hed)] at hr; cases hr)
        (fun e he A hAR => by
          by_cases hed : e = d
          · subst hed
            unfold MR
            rw [hmd]
            simp only
            rw [hβd, upd_same]
            rcases hx with ⟨hv, hl⟩ | ⟨g, e', cap, css, post, hv, hg, hh, hr', hc, hs, hcm⟩
            · exact .inl ⟨hv, hl, trivial⟩
            · refine .inr ⟨g, e', cap, css, post, hv, by simpa using hh, hr'.mono fun y cs hy => R_mono A hy, hc, by rw [if_pos trivial]; exact ⟨rfl, hs, hcm⟩⟩
          · have hb := he.resolve_left hed
            unfold MR
            rw [hgone e hb]; trivial)
      refine wp_value hr ?_
      rw [hdst]
      refine ⟨⟨upd G.β d x, upd G.π d ([], [])⟩, _, ?_, h⟩
      rw [put_set, hls]
      exact E2.put (some d) (fun _ h => by cases h; exact hd d hdst) (v := .row d) (x := x) (by simp only [AR]; rw [hmd]; exact hβd.symm)
  | .upd d b, ok, h => by
    simp only [runRes, MBforce_eq] at h
    obtain ⟨w', hr, hn⟩ := ok
    obtain ⟨E', A, hown, _⟩ := E.newAt hn
    rw [set_eq] at E'
    rw [put_set] at h
    exact wp_skip' hr ⟨G, _, E'.put o.dst hd (v := .dead) trivial, h⟩
end Go.Proofs.YtlnbcpcnpofnoaaGreatDoor.E

/- Each operation does what the evaluator says, 1: numbers, bools, strings, parts. -/
namespace Go.Proofs.YtlnbcpcnpofnoaaGreatDoor.E
open Go Go.RowKit
set_option linter.unusedVariables false
set_option linter.unusedSimpArgs false

variable {P : Program} {X : Nat → Prop} {F : Root} {w0 : World} {n : Nat} {G : Gh} {st : St} {a : Act} {w : World} {o : Oper}

/-! ### What is known of types -/
def TI.ok (P : Program) (t : TypeId) : TI → Prop
  | .unk => True
  | .plain => ∃ d i, P.underlying t = some d ∧ (∀ fs, d ≠ .struct fs) ∧ (∀ k e, d ≠ .array k e) ∧ P.info? t = some i ∧ i.size = 1
  | .bool => P.underlying t = some .bool ∧ ∃ i, P.info? t = some i ∧ i.size = 1 ∧ i.zero = some (.bool false)
  | .str => P.underlying t = some .string ∧ ∃ i, P.info? t = some i ∧ i.size = 1 ∧ i.zero = some (.string ByteArray.empty)
  | .int k => P.underlying t = some (.int k) ∧ ∃ i, P.info? t = some i ∧ i.size = 1 ∧ i.zero = some (.int k 0)
  | .slice e ty size bytes => P.underlying t = some (.slice e) ∧ (∃ i, P.info? t = some i ∧ i.size = 1 ∧ i.zero = some (.slice none 0 0)) ∧
      ∃ i z, P.info? e = some i ∧ i.size = ty.n ∧ i.bytes ≤ 64 ∧ i.zero = some z ∧ ∀ w own, R w own ty ty.dflt z.cells.toList
  | .arr e ty size len => P.underlying t = some (.array len e) ∧ ∃ i, P.info? e = some i ∧ i.size = ty.n
  | .vec e ty len zero => 2 ≤ len ∧ P.underlying t = some (.array len e) ∧ (∃ ie, P.info? e = some ie ∧ ie.size = 1) ∧ (∃ d, P.underlying e = some d ∧ (∀ fs, d ≠ .struct fs) ∧ (∀ k e, d ≠ .array k e)) ∧ ∃ i z, P.info? t = some i ∧ i.size = len ∧ i.zero = some (.agg z) ∧
      (∀ w own β m, All2 (AR w own β m) zero z.toList) ∧ (∀ c ∈ z.toList, c.oneCell' = true) ∧ z.size = len
  | .struct fields size zero => ∃ fs i z, P.underlying t = some (.struct fs) ∧ P.info? t = some i ∧ i.size = size ∧ i.zero = some (.agg z) ∧
      (∀ w own β m, All2 (AR w own β m) zero z.toList) ∧ (∀ c ∈ z.toList, c.oneCell' = true) ∧ z.size = size ∧ fs.toList.mapM (fun f => (P.info? f.type).map fun i => (f.offset, i.size)) = some fields ∧
      ∀ (k : Nat) (p : Nat × Nat), fields[k]? = some p → ∃ f fi, fs[k]? = some f ∧ f.offset = p.1 ∧ P.info? f.type = some fi ∧ fi.size = p.2 ∧ p.2 ≠ 0 ∧ p.1 + p.2 ≤ size

theorem run_info {t : TypeId} {i : TypeInfo} (h : P.info? t = some i) (w : World) : (typeInfo t).run P w = .ok i w := by simp [typeInfo, h]
theorem run_sizeOf {t : TypeId} {i : TypeInfo} (h : P.info? t = some i) (w : World) : (sizeOf t).run P w = .ok i.size w := by simp [sizeOf, run_info h]
theorem run_zero {t : TypeId} {i : TypeInfo} {z : Value} (h : P.info? t = some i) (hz : i.zero = some z) (w : World) : (zeroValue t).run P w = .ok z w := by simp [zeroValue, run_info h, hz]

theorem look_LR (E : EnvR X F w0 n G st a w) (x : Operand) : LR w (Own X G.β st.m) G st.m (st.look x) (a.eval x) := by
  refine at_LR E.mems ?_
  cases x with
  | tmp t => exact E.slots t
  | const v => exact ofValue_AR v
  | global g => rfl
  | func f => rfl

/-! ### Values that are put as they are -/
theorem put_ok {v : AV} {x : Value} (hr : (execOp a.eval o).run P w = .ok (.value x) w) (h : AR w (Own X G.β st.m) G.β st.m v x) : OpOK P X G st o a w (.put v) := ⟨x, w, hr, Grows.refl w, h⟩
theorem ok_move (E : EnvR X F w0 n G st a w) {x : Operand} (ho : o.op = .move x ∨ o.op = .assign x) : OpOK P X G st o a w (.put (st.look x).1) := by
  refine put_ok (x := a.eval x) ?_ (look_LR E x).1
  rcases ho with ho | ho <;> simp [execOp, ho]
theorem VR_int {own : Nat → Prop} {k : IntKind} {x : Int} {v : Value} (h : VR w own (.int k) x v) : v = .int k x := by
  have h1 := h.1; have h2 := h.2
  rw [cells_of_one h2] at h1
  simpa [R] using h1
theorem VR_bool {own : Nat → Prop} {x : Bool} {v : Value} (h : VR w own .bool x v) : v = .bool x := by
  have h1 := h.1; have h2 := h.2
  rw [cells_of_one h2] at h1
  simpa [R] using h1
theorem VR_str {own : Nat → Prop} {x : ByteArray} {v : Value} (h : VR w own .str x v) : v = .string x := by
  have h1 := h.1; have h2 := h.2
  rw [cells_of_one h2] at h1
  simpa [R] using h1
theorem VR_nil {own : Nat → Prop} {x : Unit} {v : Value} (h : VR w own .nil x v) : v = .slice none 0 0 := by
  have h1 := h.1; have h2 := h.2
  rw [cells_of_one h2] at h1
  simpa [R] using h1
theorem int_VR (w : World) (own : Nat → Prop) (k : IntKind) (x : Int) : VR w own (.int k) x (.int k x) := VR_cell (by simp [R]) (by simp) (by simp)
theorem bool_VR (w : World) (own : Nat → Prop) (x : Bool) : VR w own .bool x (.bool x) := VR_cell (by simp [R]) (by simp) (by simp)
theorem str_VR (w : World) (own : Nat → Prop) (x : ByteArray) : VR w own .str x (.string x) := VR_cell (by simp [R]) (by simp) (by simp)
theorem VR_lst {own : Nat → Prop} {t : Ty} {x : List t.D} {v : Value} (h : VR w own (.lst t) x v) : R w own (.lst t) x [v] := by
  have h1 := h.1; have h2 := h.2
  rwa [cells_of_one h2] at h1
/-- What is looked up, where it is a plain value. -/
theorem look_t (E : EnvR X F w0 n G st a w) {x : Operand} {ty : Ty} {y : ty.D} (h : (st.look x).1 = .t ty y) : VR w (Own X G.β st.m) ty y (a.eval x) := by
  have := (look_LR E x).1
  rw [h] at this; exact this
theorem look_int (E : EnvR X F w0 n G st a w) {x : Operand} {k : IntKind} {y : Int} (h : (st.look x).1 = .t (.int k) y) : a.eval x = .int k y := VR_int (look_t E h)
theorem ok_pick (E : EnvR X F w0 n G st a w) {c x y : Operand} (ho : o.op = .pick c x y) (Γ : Ctx) : OpOK P X G st o a w (evOp Γ o st.look) := by
  unfold evOp; rw [ho]; simp only
  split
  · rename_i h
    have hc := VR_bool (look_t E h)
    refine put_ok (x := a.eval x) ?_ (look_LR E x).1
    simp [execOp, ho, hc, asBool]
  · rename_i h
    have hc := VR_bool (look_t E h)
    refine put_ok (x := a.eval y) ?_ (look_LR E y).1
    simp [execOp, ho, hc, asBool]
  · trivial
/-! ### Arithmetic -/
theorem bp_AR {own : Nat → Prop} {β : Nat → Value} {m : Nat → MB} {p : Prop} (d : Decidable p) {b : Bool} (h : b = true ↔ p) : AR w own β m (.bp p d) (.bool b) := by
  simp only [AR]
  congr 1
  cases b
  · have : ¬ p := fun hp => by have := h.2 hp; cases this
    simp [this]
  · have := h.1 rfl
    simp [this]
theorem ok_bin_put (E : EnvR X F w0 n G st a w) {op : BinOp} {T U : TypeId} {x y : Operand} (ho : o.op = .binOp op T x y U) {v : AV} {r : Value}
    (hg : (eqGuard op T x y (a.eval x) (a.eval y)).run P w = .ok () w) (hr : (binOp op T (a.eval x) (a.eval y)).run P w = .ok r w) (h : AR w (Own X G.β st.m) G.β st.m v r) : OpOK P X G st o a w (.put v) := by
  refine put_ok (x := r) ?_ h
  simp [execOp, ho, hg, hr]
theorem guard_int (op : BinOp) (T : TypeId) (x y : Operand) (j k : IntKind) (b c : Int) (w : World) : (eqGuard op T x y (.int j b) (.int k c)).run P w = .ok () w := by
  unfold eqGuard; cases op <;> simp
theorem ok_binInt (E : EnvR X F w0 n G st a w) {op : BinOp} {T U : TypeId} {x y : Operand} (ho : o.op = .binOp op T x y U) {k : IntKind} {b c : Int} (hx : a.eval x = .int k b) (hy : a.eval y = .int k c) (hs : isShift op = false) :
    OpOK P X G st o a w (binInt op k b c) := by
  have hg : (eqGuard op T x y (a.eval x) (a.eval y)).run P w = .ok () w := by rw [hx, hy]; exact guard_int _ _ _ _ _ _ _ _ _
  cases op <;> simp only [binInt, OpOK, isShift] at hs ⊢
  case add => exact ok_bin_put E ho hg (by rw [hx, hy]; simp [binOp, Op.intArith]) (int_VR _ _ _ _)
  case sub => exact ok_bin_put E ho hg (by rw [hx, hy]; simp [binOp, Op.intArith]) (int_VR _ _ _ _)
  case mul => exact ok_bin_put E ho hg (by rw [hx, hy]; simp [binOp, Op.intArith]) (int_VR _ _ _ _)
  case quo => intro h0; exact ok_bin_put E ho hg (by rw [hx, hy]; simp [binOp, Op.intDiv, h0]) (int_VR _ _ _ _)
  case rem => intro h0; exact ok_bin_put E ho hg (by rw [hx, hy]; simp [binOp, Op.intDiv, h0]) (int_VR _ _ _ _)
  case and => exact ok_bin_put E ho hg (by rw [hx, hy]; simp [binOp, Op.intBits]) (int_VR _ _ _ _)
  case or => exact ok_bin_put E ho hg (by rw [hx, hy]; simp [binOp, Op.intBits]) (int_VR _ _ _ _)
  case xor => exact ok_bin_put E ho hg (by rw [hx, hy]; simp [binOp, Op.intBits]) (int_VR _ _ _ _)
  case andNot => exact ok_bin_put E ho hg (by rw [hx, hy]; simp [binOp, Op.intBits]) (int_VR _ _ _ _)
  case eql => exact ok_bin_put E ho hg (by rw [hx, hy]; simp [binOp, Op.intCmp]; rfl) (bp_AR _ (by simp))
  case neq => exact ok_bin_put E ho hg (by rw [hx, hy]; simp [binOp, Op.intCmp]; rfl) (bp_AR _ (by simp))
  case lss => exact ok_bin_put E ho hg (by rw [hx, hy]; simp [binOp, Op.intCmp]; rfl) (bp_AR _ (by simp))
  case leq => exact ok_bin_put E ho hg (by rw [hx, hy]; simp [binOp, Op.intCmp]; rfl) (bp_AR _ (by simp))
  case gtr => exact ok_bin_put E ho hg (by rw [hx, hy]; simp [binOp, Op.intCmp]; rfl) (bp_AR _ (by simp))
  case geq => exact ok_bin_put E ho hg (by rw [hx, hy]; simp [binOp, Op.intCmp]; rfl) (bp_AR _ (by simp))
  all_goals cases hs
theorem ok_shift (E : EnvR X F w0 n G st a w) {op : BinOp} {T U : TypeId} {x y : Operand} (ho : o.op = .binOp op T x y U) {k j : IntKind} {b c : Int} (hx : a.eval x = .int k b) (hy : a.eval y = .int j c) :
    OpOK P X G st o a w (shiftInt op k b c) := by
  have hg : (eqGuard op T x y (a.eval x) (a.eval y)).run P w = .ok () w := by rw [hx, hy]; exact guard_int _ _ _ _ _ _ _ _ _
  cases op <;> simp only [shiftInt, OpOK]
  case shl =>
    intro h0
    have : ¬ c < 0 := by omega
    exact ok_bin_put E ho hg (by rw [hx, hy]; simp [binOp, Op.shift, this]) (int_VR _ _ _ _)
  case shr =>
    intro h0
    have : ¬ c < 0 := by omega
    exact ok_bin_put E ho hg (by rw [hx, hy]; simp [binOp, Op.shift, this]) (int_VR _ _ _ _)
theorem LR_bool {own : Nat → Prop} {G : Gh} {m : Nat → MB} {v : AV × MB} {x : Value} (h : LR w own G m v x) : (∀ b, v.1 = .t .bool b → x = .bool b) ∧ (∀ p d, v.1 = .bp p d → x = .bool (@decide p d)) := by
  refine ⟨fun b hb => ?_, fun p d hb => ?_⟩
  · have := h.1; rw [hb] at this; exact VR_bool this
  · have := h.1; rw [hb] at this; exact this
theorem guard_bool (op : BinOp) (T : TypeId) (x y : Operand) (b c : Bool) (w : World) : (eqGuard op T x y (.bool b) (.bool c)).run P w = .ok () w := by
  unfold eqGuard; cases op <;> simp
theorem ok_bool (E : EnvR X F w0 n G st a w) {op : BinOp} {T U : TypeId} {x y : Operand} (ho : o.op = .binOp op T x y U) {b c : Bool} (hx : a.eval x = .bool b) (hy : a.eval y = .bool c) {ti : TI} (ht : ti.ok P T) :
    OpOK P X G st o a w (evBool op ti b c) := by
  have hg : (eqGuard op T x y (a.eval x) (a.eval y)).run P w = .ok () w := by rw [hx, hy]; exact guard_bool _ _ _ _ _ _ _
  unfold evBool
  split
  · refine ok_bin_put E ho hg (r := .bool (b == c)) (by rw [hx, hy]; exact run_eql_bool w T b c ht.1) (bp_AR _ (by simp))
  · refine ok_bin_put E ho hg (r := .bool (!(b == c))) (by rw [hx, hy]; exact run_neq_bool w T b c ht.1) (bp_AR _ (by simp))
  · trivial
theorem str_inj {x y : ByteArray} : (x.toList == y.toList) = true ↔ x = y := by
  rw [beq_iff_eq]
  constructor
  · intro h
    rw [ByteArray.toList_eq, ByteArray.toList_eq] at h
    cases x; cases y
    congr 1
    exact Array.toList_inj.1 h
  · intro h; rw [h]
theorem guard_str (op : BinOp) (T : TypeId) (x y : Operand) (b c : ByteArray) (w : World) : (eqGuard op T x y (.string b) (.string c)).run P w = .ok () w := by
  unfold eqGuard; cases op <;> simp
theorem ok_nilq (E : EnvR X F w0 n G st a w) {T U e : TypeId} {x y : Operand} (ho : o.op = .binOp .eql T x y U) {t : Ty} {l : List t.D} (hx : VR w (Own X G.β st.m) (.lst t) l (a.eval x)) (hy : a.eval y = .slice none 0 0) (ht : P.underlying T = some (.slice e)) :
    OpOK P X G st o a w (.put (.nq (l = []))) := by
  have h1 := VR_lst hx
  simp only [R] at h1
  obtain ⟨ao, cap, hv, hc, hl⟩ := h1
  have hv : a.eval x = .slice ao (List.length l) cap := by simpa using hv
  have hg : (eqGuard .eql T x y (a.eval x) (a.eval y)).run P w = .ok () w := by rw [hv, hy]; unfold eqGuard; simp
  refine ok_bin_put E ho hg (r := .bool ao.isNone) ?_ ?_
  · rw [hv, hy]
    simp [binOp, run_equal_slice_nil w T e ao _ cap ht]
  · refine ⟨_, rfl, fun hn => ?_⟩
    rcases hl with hl | ⟨a', _, rfl, _⟩
    · exact hl
    · simp at hn
theorem ok_un (E : EnvR X F w0 n G st a w) {op : UnOp} {T : TypeId} {x : Operand} (ho : o.op = .unOp op T x) (Γ : Ctx) : OpOK P X G st o a w (evOp Γ o st.look) := by
  unfold evOp; rw [ho]; simp only
  unfold evUn
  have L := look_LR E x
  split
  · rename_i k m h
    have hx := look_int E h
    exact put_ok (x := .int k (k.wrap (0 - m))) (by simp [execOp, ho, hx, Op.unary, Op.intArith]) (int_VR _ _ _ _)
  · rename_i k m h
    have hx := look_int E h
    refine put_ok (x := .int k (k.wrap (BitVec.ofInt k.bits (if k.signed then -1 else k.max) ^^^ BitVec.ofInt k.bits m).toNat)) (by simp [execOp, ho, hx, Op.unary, Op.intBits]) (int_VR _ _ _ _)
  · rename_i b h
    have hx := (LR_bool L).1 b h
    exact put_ok (x := .bool (!b)) (by simp [execOp, ho, hx, Op.unary]) (bool_VR _ _ _)
  · rename_i p d h
    have hx := (LR_bool L).2 p d h
    exact put_ok (x := .bool (!(@decide p d))) (by simp [execOp, ho, hx, Op.unary]) (bp_AR _ (by simp))
  · trivial
/-! ### Parts of answers -/
theorem tupNth_AR {own : Nat → Prop} {β : Nat → Value} {m : Nat → MB} : ∀ {ty : Ty} {x : ty.D} {vs : List Value} {i : Nat} {v : Value}, TupR w own ty x vs → vs[i]? = some v → AR w own β m (tupNth ty x i) v
  | .pair a b, x, vs, 0, v, h, hv => by
    simp only [TupR] at h; obtain ⟨u, r, rfl, h1, _⟩ := h
    simp at hv; subst hv; exact h1
  | .pair a b, x, vs, i + 1, v, h, hv => by
    simp only [TupR] at h; obtain ⟨u, r, rfl, _, h2⟩ := h
    simp only [tupNth]
    exact tupNth_AR h2 (by simpa using hv)
  | .nil, x, vs, i, v, h, hv => by simp only [TupR] at h; subst h; simp at hv
  | .int _, x, vs, i, v, h, hv => by simp only [TupR] at h; obtain ⟨u, rfl, h⟩ := h; cases i <;> simp at hv; subst hv; exact h
  | .bool, x, vs, i, v, h, hv => by simp only [TupR] at h; obtain ⟨u, rfl, h⟩ := h; cases i <;> simp at hv; subst hv; exact h
  | .str, x, vs, i, v, h, hv => by simp only [TupR] at h; obtain ⟨u, rfl, h⟩ := h; cases i <;> simp at hv; subst hv; exact h
  | .any, x, vs, i, v, h, hv => by simp only [TupR] at h; obtain ⟨u, rfl, h⟩ := h; cases i <;> simp at hv; subst hv; exact h
  | .lst _, x, vs, i, v, h, hv => by simp only [TupR] at h; obtain ⟨u, rfl, h⟩ := h; cases i <;> simp at hv; subst hv; exact h
  | .agg _, x, vs, i, v, h, hv => by simp only [TupR] at h; obtain ⟨u, rfl, h⟩ := h; cases i <;> simp at hv; subst hv; exact h
theorem TupR_len {own : Nat → Prop} : ∀ {ty : Ty} {x : ty.D} {vs : List Value}, TupR w own ty x vs → vs.length = tupLen ty
  | .pair a b, _, _, h => by simp only [TupR] at h; obtain ⟨u, r, rfl, _, h⟩ := h; simp [tupLen, TupR_len h]
  | .nil, _, _, h => by simp only [TupR] at h; subst h; rfl
  | .int _, _, _, h => by simp only [TupR] at h; obtain ⟨u, rfl, h⟩ := h; rfl
  | .bool, _, _, h => by simp only [TupR] at h; obtain ⟨u, rfl, h⟩ := h; rfl
  | .str, _, _, h => by simp only [TupR] at h; obtain ⟨u, rfl, h⟩ := h; rfl
  | .any, _, _, h => by simp only [TupR] at h; obtain ⟨u, rfl, h⟩ := h; rfl
  | .lst _, _, _, h => by simp only [TupR] at h; obtain ⟨u, rfl, h⟩ := h; rfl
  | .agg _, _, _, h => by simp only [TupR] at h; obtain ⟨u, rfl, h⟩ := h; rfl
end Go.Proofs.YtlnbcpcnpofnoaaGreatDoor.E

/- Each operation does what the evaluator says, 2: what two values have to do with one another; texts; parts of answers. -/
namespace Go.Proofs.YtlnbcpcnpofnoaaGreatDoor.E
open Go Go.RowKit
set_option linter.unusedVariables false
set_option linter.unusedSimpArgs false

variable {P : Program} {X : Nat → Prop} {F : Root} {w0 : World} {n : Nat} {G : Gh} {st : St} {a : Act} {w : World} {o : Oper}

def EqOK (P : Program) (t : TypeId) (ty : Ty) : Prop := P.eqGuardType P.depth t = false ∧ ∀ (w : World) (own : Nat → Prop) (x y : ty.D) (cs ds : Array Value), R w own ty x cs.toList → R w own ty y ds.toList →
  (Op.equalIn 10000 t (.agg cs) (.agg ds)).run P w = .ok (@decide (eqP ty x y) (eqD ty x y)) w
theorem ok_str (E : EnvR X F w0 n G st a w) {op : BinOp} {T U : TypeId} {x y : Operand} (ho : o.op = .binOp op T x y U) {b c : ByteArray} (hx : a.eval x = .string b) (hy : a.eval y = .string c) :
    OpOK P X G st o a w (evStr op b c) := by
  have hg : (eqGuard op T x y (a.eval x) (a.eval y)).run P w = .ok () w := by rw [hx, hy]; exact guard_str _ _ _ _ _ _ _
  unfold evStr
  split
  · exact ok_bin_put E ho hg (r := .bool (b.toList == c.toList)) (by rw [hx, hy]; simp [binOp, Op.stringOp]) (bp_AR _ str_inj)
  · refine ok_bin_put E ho hg (r := .bool (!(b.toList == c.toList))) (by rw [hx, hy]; simp [binOp, Op.stringOp]) (bp_AR _ ?_)
    rw [← str_inj]; simp
  · intro h0
    refine ok_bin_put E ho hg (r := .string (b ++ c)) ?_ (str_VR _ _ _)
    rw [hx, hy]
    have : ¬ (((b.size + c.size : Nat) : Int) > IntKind.i64.max) := by simp [IntKind.max, IntKind.signed, IntKind.bits]; omega
    simp only [binOp, Op.stringOp]
    rw [if_neg this]; rfl
  · trivial
theorem VR_agg {own : Nat → Prop} {t : Ty} {x : t.D} {v : Value} (h : VR w own (.agg t) x v) : ∃ cs : Array Value, v = .agg cs ∧ R w own t x cs.toList := by
  obtain ⟨h1, cs, rfl⟩ := h
  exact ⟨cs, rfl, by simpa [Value.cells, R] using h1⟩
theorem ok_bin (E : EnvR X F w0 n G st a w) {op : BinOp} {T U : TypeId} {x y : Operand} (ho : o.op = .binOp op T x y U) {Γ : Ctx} (ht : (Γ.ty T).ok P T) (he : ∀ ty, Γ.eq T = some ty → EqOK P T ty) :
    OpOK P X G st o a w (evOp Γ o st.look) := by
  unfold evOp; rw [ho]; simp only
  unfold evBin
  have Lx := look_LR E x
  have Ly := look_LR E y
  split
  · rename_i j b k c h1 h2
    have hx := look_int E h1
    have hy := look_int E h2
    split
    · exact ok_shift E ho hx hy
    · rename_i hs
      cases hjk : decide (j = k)
      · trivial
      · obtain rfl := of_decide_eq_true hjk
        exact ok_binInt E ho hx hy hs
  · rename_i t l u h1 h2
    split
    · rename_i e ty size bytes hti
      rw [hti] at ht
      exact ok_nilq E ho (look_t E h1) (VR_nil (look_t E h2)) ht.1
    · trivial
  · rename_i b c h1 h2
    exact ok_bool E ho ((LR_bool Lx).1 b h1) ((LR_bool Ly).1 c h2) ht
  · rename_i p d c h1 h2
    exact ok_bool E ho ((LR_bool Lx).2 p d h1) ((LR_bool Ly).1 c h2) ht
  · rename_i b p d h1 h2
    exact ok_bool E ho ((LR_bool Lx).1 b h1) ((LR_bool Ly).2 p d h2) ht
  · rename_i p d q e h1 h2
    exact ok_bool E ho ((LR_bool Lx).2 p d h1) ((LR_bool Ly).2 q e h2) ht
  · rename_i b c h1 h2
    exact ok_str E ho (VR_str (look_t E h1)) (VR_str (look_t E h2))
  · rename_i t1 x1 t2 y1 h1 h2
    split
    · rename_i e hee
      split
      · rename_i x2 y2 e1 e2
        obtain ⟨hm, heq⟩ := he e hee
        obtain ⟨cs, hx, hr⟩ := VR_agg (look_t E h1)
        obtain ⟨ds, hy, hs⟩ := VR_agg (look_t E h2)
        have hg : (eqGuard op T x y (a.eval x) (a.eval y)).run P w = .ok () w := by rw [hx, hy]; exact run_eqGuard_agg w _ _ _ _ _ _ hm
        have hq := heq w _ x2 y2 cs ds (coD_R e1 hr) (coD_R e2 hs)
        split
        · refine ok_bin_put E ho hg (r := .bool (@decide (eqP e x2 y2) (eqD e x2 y2))) ?_ rfl
          rw [hx, hy, run_eql_struct, hq]; rfl
        · refine ok_bin_put E ho hg (r := .bool (!(@decide (eqP e x2 y2) (eqD e x2 y2)))) ?_ ?_
          · rw [hx, hy, run_neq_struct, hq]; rfl
          · refine bp_AR _ ?_
            by_cases hh : eqP e x2 y2 <;> simp [hh]
        · trivial
      · trivial
    · trivial
  · trivial
theorem ok_extract (E : EnvR X F w0 n G st a w) {x : Operand} {i : Nat} (ho : o.op = .extract x i) (Γ : Ctx) : OpOK P X G st o a w (evOp Γ o st.look) := by
  unfold evOp; rw [ho]; simp only
  have L := look_LR E x
  split
  · rename_i ty y h
    have h1 := L.1
    rw [h] at h1
    obtain ⟨vs, hv, ht⟩ := h1
    split
    · rename_i hi
      have hi' : i < vs.length := by rw [TupR_len ht]; simpa [Nat.blt_eq] using hi
      have hv' : vs[i]? = some vs[i] := List.getElem?_eq_getElem hi'
      refine put_ok (x := vs[i]) ?_ (tupNth_AR ht hv')
      simp [execOp, ho, hv, Instr.extract, hi']
    · trivial
  · trivial
end Go.Proofs.YtlnbcpcnpofnoaaGreatDoor.E

/- Each operation does what the evaluator says, 3: reading and writing. -/
namespace Go.Proofs.YtlnbcpcnpofnoaaGreatDoor.E
open Go Go.RowKit
set_option linter.unusedVariables false
set_option linter.unusedSimpArgs false

variable {P : Program} {X : Nat → Prop} {F : Root} {w0 : World} {n : Nat} {G : Gh} {st : St} {a : Act} {w : World} {o : Oper}

theorem run_isAgg_struct {t : TypeId} {fs : Array Field} (h : P.underlying t = some (.struct fs)) (w : World) : (isAgg t).run P w = .ok true w := by simp [isAgg, run_underlying h]
theorem run_isAgg_arr {t e : TypeId} {k : Nat} (h : P.underlying t = some (.array k e)) (w : World) : (isAgg t).run P w = .ok true w := by simp [isAgg, run_underlying h]
theorem run_isAgg_not {t : TypeId} {d : TypeDesc} (h : P.underlying t = some d) (h1 : ∀ fs, d ≠ .struct fs) (h2 : ∀ k e, d ≠ .array k e) (w : World) : (isAgg t).run P w = .ok false w := by
  simp only [isAgg, Sem.run_bind, run_underlying h, Result.andThen_ok]
  cases d <;> first | rfl | exact absurd rfl (h1 _) | exact absurd rfl (h2 _ _)
/-- A type that isn't a struct's: one cell. -/
theorem TI.ok_one {t : TypeId} {ti : TI} (h : ti.ok P t) (hn : ti.n = 1) (hs : ∀ fs s z, ti ≠ .struct fs s z) : (∃ d, P.underlying t = some d ∧ (∀ fs, d ≠ .struct fs) ∧ (∀ k e, d ≠ .array k e)) ∧ ∃ i, P.info? t = some i ∧ i.size = 1 := by
  cases ti with
  | unk => simp [TI.n] at hn
  | plain => obtain ⟨d, i, h1, h2, h3, h4, h5⟩ := h; exact ⟨⟨d, h1, h2, h3⟩, i, h4, h5⟩
  | bool => obtain ⟨h1, i, h2, h3, _⟩ := h; exact ⟨⟨_, h1, by simp, by simp⟩, i, h2, h3⟩
  | str => obtain ⟨h1, i, h2, h3, _⟩ := h; exact ⟨⟨_, h1, by simp, by simp⟩, i, h2, h3⟩
  | int k => obtain ⟨h1, i, h2, h3, _⟩ := h; exact ⟨⟨_, h1, by simp, by simp⟩, i, h2, h3⟩
  | slice e ty size bytes => obtain ⟨h1, ⟨i, h2, h3, _⟩, _⟩ := h; exact ⟨⟨_, h1, by simp, by simp⟩, i, h2, h3⟩
  | arr e ty size len => simp [TI.n] at hn
  | vec e ty len z => have h2 := h.1; simp only [TI.n] at hn; omega
  | struct fs s z => exact absurd rfl (hs _ _ _)
theorem TI.leaf_one {ti : TI} {ty : Ty} (h : ti.leaf ty = true) : ti.n = 1 ∧ (∀ fs s z, ti ≠ .struct fs s z) ∧ ty.n = 1 ∧ (∀ t, ty ≠ .agg t) ∧ (∀ t u, ty ≠ .pair t u) := by
  cases ti <;> cases ty <;> simp_all [TI.leaf, TI.n, Ty.n]
theorem run_load_cell {T : TypeId} {d : TypeDesc} (h : P.underlying T = some d) (h1 : ∀ fs, d ≠ .struct fs) (h2 : ∀ k e, d ≠ .array k e) {ad : Addr} {c : Value} (hc : w.cell? ad = some c) : (Instr.loadAt T (.pointer (some ad))).run P w = .ok c w := by
  simp [Instr.loadAt, Instr.sureAddr, loadVar, run_isAgg_not h h1 h2, hc]
theorem run_load_agg {T : TypeId} {fs : Array Field} {i : TypeInfo} (h : P.underlying T = some (.struct fs)) (hi : P.info? T = some i) {ad : Addr} {cs : List Value} (hl : cs.length = i.size) (hc : ∀ (j : Nat) (c : Value), cs[j]? = some c → w.cell? (ad.add j) = some c) :
    (Instr.loadAt T (.pointer (some ad))).run P w = .ok (.agg cs.toArray) w := by
  have := run_loadCells_list (P := P) w ad cs hc
  rw [hl] at this
  simp [Instr.loadAt, Instr.sureAddr, loadVar, run_isAgg_struct h, run_sizeOf hi, this]
theorem run_load_arr {T e : TypeId} {k : Nat} {i : TypeInfo} (h : P.underlying T = some (.array k e)) (hi : P.info? T = some i) {ad : Addr} {cs : List Value} (hl : cs.length = i.size) (hc : ∀ (j : Nat) (c : Value), cs[j]? = some c → w.cell? (ad.add j) = some c) :
    (Instr.loadAt T (.pointer (some ad))).run P w = .ok (.agg cs.toArray) w := by
  have := run_loadCells_list (P := P) w ad cs hc
  rw [hl] at this
  simp [Instr.loadAt, Instr.sureAddr, loadVar, run_isAgg_arr h, run_sizeOf hi, this]
theorem run_part_cell {e : TypeId} {d : TypeDesc} {cs : Array Value} {off : Nat} {v : Value} (h : P.underlying e = some d) (h1 : ∀ fs, d ≠ .struct fs) (h2 : ∀ k e, d ≠ .array k e) (hc : cs[off]? = some v) (w : World) : (Go.part e cs off).run P w = .ok v w := by
  simp [Go.part, run_isAgg_not h h1 h2, hc]
theorem ok_load_run {x : Operand} {T : TypeId} (ho : o.op = .load T x) {p : Value} (hp : a.eval x = p) {v : Value} (h : (Instr.loadAt T p).run P w = .ok v w) : (execOp a.eval o).run P w = .ok (.value v) w := by
  simp [execOp, ho, hp, h]
theorem load_plain {own : Nat → Prop} {T : TypeId} {ti : TI} (ht : ti.ok P T) {ty : Ty} (hf : ti.fits ty = true) {y : ty.D} {ad : Addr} {cs : List Value} (hr : R w own ty y cs) (hc : ∀ (j : Nat) (c : Value), cs[j]? = some c → w.cell? (ad.add j) = some c) :
    ∃ v, (Instr.loadAt T (.pointer (some ad))).run P w = .ok v w ∧ VR w own ty y v := by
  by_cases hs : ∃ fs s z, ti = .struct fs s z
  · obtain ⟨fs, s, z, rfl⟩ := hs
    obtain ⟨fs', i, z', h1, h2, h3, _⟩ := ht
    cases ty <;> simp only [TI.fits] at hf <;> try (cases hf)
    rename_i t
    have hl : cs.length = i.size := by rw [R_len hr, h3]; simp [Ty.n]; exact (Nat.eq_of_beq_eq_true hf).symm
    refine ⟨_, run_load_agg h1 h2 hl hc, ⟨by simpa [Value.cells] using hr, _, rfl⟩⟩
  · have hs' : ∀ fs s z, ti ≠ .struct fs s z := fun fs s z e => hs ⟨fs, s, z, e⟩
    have hn : ti.n = 1 := by cases ti <;> cases ty <;> simp_all [TI.fits, TI.n]
    have hna : (∀ t, ty ≠ .agg t) ∧ (∀ t u, ty ≠ .pair t u) := by cases ti <;> cases ty <;> simp_all [TI.fits]
    obtain ⟨⟨d, h1, h2, h3⟩, _⟩ := TI.ok_one ht hn hs'
    have hl : cs.length = 1 := by
      rw [R_len hr]
      cases ty <;> first | rfl | exact absurd rfl (hna.1 _) | exact absurd rfl (hna.2 _ _)
    match cs, hl, hr, hc with
    | [c], _, hr, hc => exact ⟨c, run_load_cell h1 h2 h3 (hc 0 c rfl), VR_cell hr hna.1 hna.2⟩
/-- What stands behind a pointer into a box. -/
theorem box_at (E : EnvR X F w0 n G st a w) {x : Operand} {d off : Nat} {l : List AV} (h1 : (st.look x).1 = .ptr d off) (h2 : (st.look x).2 = .box l) :
    st.m d = .box l ∧ ∃ (g : Nat) (e : TypeId) (cs : List Value), G.β d = .pointer (some ⟨g, (G.π d).1.length, none⟩) ∧ a.eval x = .pointer (some (Addr.add ⟨g, (G.π d).1.length, none⟩ off)) ∧
      w.heap[g]? = some (.cells ((G.π d).1 ++ cs ++ (G.π d).2).toArray e (0, 0)) ∧ All2 (AR w (Own X G.β st.m) G.β st.m) l cs ∧ ∀ c ∈ cs, c.oneCell' = true := by
  have L := look_LR E x
  obtain ⟨L1, L2⟩ := L
  rw [h1] at L1 L2
  simp only at L2
  have hm : st.m d = .box l := by rw [← L2]; exact h2
  have M := E.mems d
  unfold MR at M; rw [hm] at M; simp only at M
  obtain ⟨g, e, cs, hβ, hh, hr, hone⟩ := M
  simp only [AR, hm] at L1
  obtain ⟨a', ha, _, hv⟩ := L1
  rw [hβ] at ha
  simp at ha
  subst ha
  exact ⟨hm, g, e, cs, hβ, hv, hh, hr, hone⟩
theorem vbox_at (E : EnvR X F w0 n G st a w) {x : Operand} {d len : Nat} {ty : Ty} {i : Int} {l : List AV} (h1 : (st.look x).1 = .vptr d ty i len) (h2 : (st.look x).2 = .box l) :
    (0 ≤ i ∧ i < (len : Int)) ∧ st.m d = .box l ∧ ∃ (g : Nat) (e : TypeId) (cs : List Value), G.β d = .pointer (some ⟨g, (G.π d).1.length, none⟩) ∧ a.eval x = .pointer (some (Addr.add ⟨g, (G.π d).1.length, none⟩ i.toNat)) ∧
      w.heap[g]? = some (.cells ((G.π d).1 ++ cs ++ (G.π d).2).toArray e (0, 0)) ∧ All2 (AR w (Own X G.β st.m) G.β st.m) l cs ∧ ∀ c ∈ cs, c.oneCell' = true := by
  have L := look_LR E x
  obtain ⟨L1, L2⟩ := L
  rw [h1] at L1 L2
  simp only at L2
  have hm : st.m d = .box l := by rw [← L2]; exact h2
  have M := E.mems d
  unfold MR at M; rw [hm] at M; simp only at M
  obtain ⟨g, e, cs, hβ, hh, hr, hone⟩ := M
  simp only [AR, hm] at L1
  obtain ⟨hi, a', ha, _, hv⟩ := L1
  rw [hβ] at ha
  simp at ha
  subst ha
  exact ⟨hi, hm, g, e, cs, hβ, hv, hh, hr, hone⟩
/-- What stands behind a pointer to a row's element. -/
theorem elt_at (E : EnvR X F w0 n G st a w) {x : Operand} {d i : Nat} {app : Bool} {ty : Ty} {l : List ty.D} (h1 : (st.look x).1 = .elt d i) (h2 : (st.look x).2 = .own app ty l) :
    st.m d = .own app ty l ∧ i < l.length ∧ ∃ (g : Nat) (e : TypeId) (cap : Nat) (css : List (List Value)) (post : List Value), G.β d = .slice (some ⟨g, (G.π d).1.length, none⟩) (List.length l) cap ∧
      a.eval x = .pointer (some (Addr.add ⟨g, (G.π d).1.length, none⟩ (i * ty.n))) ∧ w.heap[g]? = some (.cells ((G.π d).1 ++ css.flatten ++ post).toArray e (0, 0)) ∧
      All2 (R w (Own X G.β st.m) ty) l css ∧ List.length l ≤ cap ∧ (if app = true then (G.π d).1 = [] ∧ css.flatten.length + post.length = cap * ty.n ∧ cap ≤ maxLen else post = (G.π d).2) := by
  have L := look_LR E x
  obtain ⟨L1, L2⟩ := L
  rw [h1] at L1 L2
  simp only at L2
  have hm : st.m d = .own app ty l := by rw [← L2]; exact h2
  have M := E.mems d
  unfold MR at M; rw [hm] at M; simp only at M
  simp only [AR, hm] at L1
  obtain ⟨hi, a', ha, hv⟩ := L1
  refine ⟨hm, hi, ?_⟩
  rcases M with ⟨hb, hl, _⟩ | ⟨g, e, cap, css, post, hβ, hh, hr, hc, happ⟩
  · subst hl; simp at hi
  · rw [hβ] at ha
    simp [headOf] at ha
    subst ha
    exact ⟨g, e, cap, css, post, hβ, hv, hh, hr, hc, happ⟩
theorem elem_get {ty : Ty} {own : Nat → Prop} {l : List ty.D} {css : List (List Value)} (h : All2 (R w own ty) l css) {i : Nat} (hi : i < l.length) :
    ∃ cs, css[i]? = some cs ∧ R w own ty (l.getD i ty.dflt) cs ∧ ∀ (j : Nat) (c : Value), cs[j]? = some c → css.flatten[i * ty.n + j]? = some c := by
  have e : l[i]? = some (l.getD i ty.dflt) := by simp [List.getD, List.getElem?_eq_getElem hi]
  obtain ⟨cs, hcs, hr⟩ := All2.get i h e
  refine ⟨cs, hcs, hr, fun j c hj => ?_⟩
  have := piece_get h i 1 j (c := c) (by
    have h2 : (css.drop i).take 1 = [cs] := by
      apply List.ext_getElem?
      intro k
      cases k with
      | zero => simp [List.getElem?_take, hcs]
      | succ k => simp [List.getElem?_take]
    rw [h2]; simpa using hj)
  exact this
theorem ok_load (E : EnvR X F w0 n G st a w) {x : Operand} {T : TypeId} (ho : o.op = .load T x) {Γ : Ctx} (ht : (Γ.ty T).ok P T) : OpOK P X G st o a w (evOp Γ o st.look) := by
  unfold evOp; rw [ho]; simp only
  split
  · rename_i d off l h1 h2
    obtain ⟨hm, g, e, cs, hβ, hv, hh, hr, hone⟩ := box_at E h1 h2
    have hcell : ∀ (j : Nat) (c : Value), cs[off + j]? = some c → w.cell? ((Addr.add ⟨g, (G.π d).1.length, none⟩ off).add j) = some c := by
      intro j c hj
      rw [add_add]; exact own_cells hh (off + j) hj
    have hlen := hr.length
    split
    · rename_i fs size z hti
      split
      · rename_i hle
        have hle : off + size ≤ l.length := Nat.le_of_ble_eq_true hle
        rw [hti] at ht
        obtain ⟨fs', i, z', t1, t2, t3, _⟩ := ht
        refine put_ok (ok_load_run ho hv (run_load_agg t1 t2 (cs := (cs.drop off).take size) (by simp; omega) ?_)) ?_
        · intro j c hj
          rw [List.getElem?_take] at hj
          split at hj
          · exact hcell j c (by simpa using hj)
          · cases hj
        · unfold part
          exact aggOf_AR (All2.take size (All2.drop off hr)) fun c hc => hone c (List.mem_of_mem_drop (List.mem_of_mem_take hc))
      · trivial
    · rename_i e2 ty2 size z hti
      split
      · rename_i hle
        have hle : off + size ≤ l.length := Nat.le_of_ble_eq_true hle
        rw [hti] at ht
        obtain ⟨_, t1, _, _, i, z', t2, t3, _⟩ := ht
        refine put_ok (ok_load_run ho hv (run_load_arr t1 t2 (cs := (cs.drop off).take size) (by simp; omega) ?_)) ?_
        · intro j c hj
          rw [List.getElem?_take] at hj
          split at hj
          · exact hcell j c (by simpa using hj)
          · cases hj
        · unfold part
          exact aggOf_AR (All2.take size (All2.drop off hr)) fun c hc => hone c (List.mem_of_mem_drop (List.mem_of_mem_take hc))
      · trivial
    · rename_i hns _
      split
      · rename_i v hn hl
        obtain ⟨c, hc, hvc⟩ := hr.get off hl
        obtain ⟨⟨d', t1, t2, t3⟩, _⟩ := TI.ok_one ht (Nat.eq_of_beq_eq_true hn) hns
        refine put_ok (ok_load_run ho hv (run_load_cell t1 t2 t3 ?_)) hvc
        have := hcell 0 c (by simpa using hc)
        rwa [add_zero] at this
      · trivial
  · rename_i d ty i len l h1 h2
    obtain ⟨i, rfl⟩ : ∃ j : Int, j = i := ⟨i, rfl⟩
    split
    · rename_i xs hf hl hx
      obtain ⟨hi, hm, g, e, cs, hβ, hv, hh, hr, hone⟩ := vbox_at E h1 h2
      have hl := Nat.eq_of_beq_eq_true hl
      have hvr := vecL_VR hx hr
      have hlt : i.toNat < xs.length := by rw [hvr.length, ← hr.length, hl]; omega
      obtain ⟨c, hc, hvc⟩ := hvr.get i.toNat (a := rdT ty xs i) (by simp [rdT, List.getD, hlt])
      obtain ⟨n1, n2, _⟩ := TI.leaf_one hf
      obtain ⟨⟨d', t1, t2, t3⟩, _⟩ := TI.ok_one ht n1 n2
      exact put_ok (ok_load_run ho hv (run_load_cell t1 t2 t3 (own_cells hh i.toNat hc))) hvc
    · trivial
  · rename_i d i app ty l h1 h2
    split
    · rename_i hf
      obtain ⟨hm, hi, g, e, cap, css, post, hβ, hv, hh, hr, _, _⟩ := elt_at E h1 h2
      obtain ⟨cs, _, hrc, hcs⟩ := elem_get hr hi
      obtain ⟨v, hl, hvr⟩ := load_plain ht hf hrc (ad := Addr.add ⟨g, (G.π d).1.length, none⟩ (i * ty.n)) fun j c hj => by rw [add_add]; exact own_cells hh _ (hcs j c hj)
      exact put_ok (ok_load_run ho hv hl) hvr
    · trivial
  · rename_i ty y b h1
    split
    · rename_i hf
      have L := (look_LR E x).1
      rw [h1] at L
      obtain ⟨ad, cs, hv, _, hr, hc⟩ := L
      obtain ⟨v, hl, hvr⟩ := load_plain ht hf hr hc
      exact put_ok (ok_load_run ho hv hl) hvr
    · trivial
  · trivial

/-! ### Addresses -/
theorem run_fieldAt {T : TypeId} {fs : Array Field} {k : Nat} {f : Field} {fi : TypeInfo} (h : P.underlying T = some (.struct fs)) (hf : fs[k]? = some f) (hi : P.info? f.type = some fi) (hz : fi.size ≠ 0) (ad : Addr) (w : World) :
    (Instr.fieldAt T (.pointer (some ad)) k).run P w = .ok (.pointer (some (ad.add f.offset))) w := by
  simp [Instr.fieldAt, run_underlying h, hf, Instr.sureAddr, fieldPlace, run_sizeOf hi, hz]
theorem ok_fieldAddr (E : EnvR X F w0 n G st a w) {x : Operand} {T : TypeId} {k : Nat} (ho : o.op = .fieldAddr T x k) {Γ : Ctx} (ht : (Γ.ty T).ok P T) : OpOK P X G st o a w (evOp Γ o st.look) := by
  unfold evOp; rw [ho]; simp only
  have L := (look_LR E x).1
  split
  · rename_i fs size z hti
    rw [hti] at ht
    obtain ⟨fs', i, z', t1, t2, t3, _, _, _, _, _, hfld⟩ := ht
    split
    · rename_i p hp
      obtain ⟨f, fi, hf, hoff, hfi, hsz, hnz, _⟩ := hfld k p hp
      have run : ∀ ad : Addr, a.eval x = .pointer (some ad) → (execOp a.eval o).run P w = .ok (.value (.pointer (some (ad.add p.1)))) w := by
        intro ad hv
        simp [execOp, ho, hv, run_fieldAt t1 hf hfi (by rw [hsz]; exact hnz), hoff]
      split
      · rename_i d off l h1 h2
        obtain ⟨hm, g, e, cs, hβ, hv, _⟩ := box_at E h1 h2
        refine put_ok (run _ hv) ?_
        simp only [AR, hm]
        exact ⟨_, hβ, rfl, by rw [add_add]⟩
      · rename_i b ty y h1
        rw [h1] at L
        obtain ⟨ad, cs, hv, hno, hr, hc⟩ := L
        have hcs : All2 (AR w (Own X G.β st.m) G.β st.m) (cellsOf ty y) cs := cellsOf_AR hr
        split
        · rename_i a' y' hp2 hpart
          refine put_ok (run _ hv) ?_
          have h3 : (cellsOf ty y)[p.1]? = some (.t a' y') := by
            have : (part (cellsOf ty y) p.1 p.2)[0]? = some (.t a' y') := by rw [hpart]; rfl
            unfold part at this
            rw [List.getElem?_take] at this
            split at this
            · simpa using this
            · cases this
          obtain ⟨c, hc', hvr⟩ := hcs.get p.1 h3
          have hone := R_one hr c (List.mem_of_getElem? hc')
          have hr' := hvr.1
          rw [cells_of_one hone] at hr'
          refine ⟨_, [c], rfl, by rw [add_block]; exact hno, hr', fun j c' hj => ?_⟩
          cases j with
          | zero => simp at hj; subst hj; rw [add_zero]; exact hc _ _ hc'
          | succ j => simp at hj
        · rename_i l hp2
          split
          · rename_i a' y' hagg hle
            refine put_ok (run _ hv) ?_
            have hr' := aggOf_AR (All2.take p.2 (All2.drop p.1 hcs)) (fun c hc => R_one hr c (List.mem_of_mem_drop (List.mem_of_mem_take hc)))
            unfold part at hagg
            rw [hagg] at hr'
            refine ⟨_, (cs.drop p.1).take p.2, rfl, by rw [add_block]; exact hno, by simpa [Value.cells] using hr'.1, fun j c' hj => ?_⟩
            rw [List.getElem?_take] at hj
            split at hj
            · rw [add_add]; exact hc _ _ (by simpa using hj)
            · cases hj
          · trivial
        · trivial
      · trivial
    · trivial
  · trivial
theorem run_indexAt {T e : TypeId} {i : TypeInfo} (h : P.underlying T = some (.slice e)) (hi : P.info? e = some i) {k : IntKind} {j : Int} {ad : Addr} {len cap : Nat} (h0 : 0 ≤ j) (h1 : j < (len : Int)) (w : World) :
    (Instr.indexAt T (.slice (some ad) len cap) (.int k j)).run P w = .ok (.pointer (some (ad.add (j.toNat * i.size)))) w := by
  simp [Instr.indexAt, asIntOf, run_underlying h, run_sizeOf hi, h0, h1]
theorem run_indexAt_arr {T e : TypeId} {i : TypeInfo} {len : Nat} (h : P.underlying T = some (.array len e)) (hi : P.info? e = some i) {k : IntKind} {j : Int} {ad : Addr} (h0 : 0 ≤ j) (h1 : j < (len : Int)) (h2 : 2 ≤ len) (w : World) :
    (Instr.indexAt T (.pointer (some ad)) (.int k j)).run P w = .ok (.pointer (some (ad.add (j.toNat * i.size)))) w := by
  simp [Instr.indexAt, asIntOf, run_underlying h, run_sizeOf hi, h0, h1, Instr.sureAddr]
/-- Tables that start-up lays: what they hold. -/
def Laid (Γ : Ctx) (w : World) : Prop := ∀ g k l, Γ.glob g = some (k, l) → ∃ (e : TypeId) (cs : List Value) (fr : Nat × Nat), w.heap[g]? = some (.cells cs.toArray e fr) ∧ cs = l.map (Value.int k)
theorem ok_indexAddr (E : EnvR X F w0 n G st a w) {x i : Operand} {T : TypeId} (ho : o.op = .indexAddr T x i) {Γ : Ctx} (ht : (Γ.ty T).ok P T) (hL : Laid Γ w) (hg : ∀ g v, Γ.glob g = some v → ¬ Own X G.β st.m g) :
    OpOK P X G st o a w (evOp Γ o st.look) := by
  unfold evOp; rw [ho]; simp only
  have L := (look_LR E x)
  have run : ∀ {p : Value}, (Instr.indexAt T (a.eval x) (a.eval i)).run P w = .ok p w → (execOp a.eval o).run P w = .ok (.value p) w := by
    intro p h; simp [execOp, ho, h]
  split
  · rename_i k j e tt size bytes hi hti
    obtain ⟨j, rfl⟩ : ∃ j' : Int, j' = j := ⟨j, rfl⟩
    rw [hti] at ht
    obtain ⟨t1, _, ie, z, t2, t3, t4, _⟩ := ht
    have hiv := look_int E hi
    split
    · rename_i b ty l h1
      cases hd : decide (ty = tt)
      · trivial
      · obtain rfl := of_decide_eq_true hd
        intro h0 h1'
        replace h0 : (0 : Int) ≤ j := h0
        replace h1' : j < (l.length : Int) := h1'
        have hv := VR_lst (look_t E h1)
        simp only [R] at hv
        obtain ⟨ao, cap, hx, hc, hl⟩ := hv
        have hx : a.eval x = .slice ao (List.length l) cap := by simpa using hx
        have hlt : j.toNat < l.length := by omega
        rcases hl with hl | ⟨ad, css, rfl, hno, hr, hcell⟩
        · subst hl; simp at hlt
        · obtain ⟨cs, _, hrc, hcs⟩ := elem_get hr hlt
          refine put_ok (run (by rw [hx, hiv]; exact run_indexAt t1 t2 h0 h1' w)) ⟨_, cs, rfl, by rw [add_block]; exact hno, hrc, fun q c hq => ?_⟩
          rw [add_add, t3]
          exact hcell _ _ (hcs q c hq)
    · rename_i d app ty l h1 h2
      cases hd : decide (ty = tt)
      · trivial
      · obtain rfl := of_decide_eq_true hd
        intro h0 h1'
        replace h0 : (0 : Int) ≤ j := h0
        replace h1' : j < (l.length : Int) := h1'
        obtain ⟨L1, L2⟩ := L
        rw [h1] at L1 L2
        simp only at L2
        have hm : st.m d = .own app ty l := by rw [← L2]; exact h2
        have hx : a.eval x = G.β d := by simp only [AR, hm] at L1; exact L1
        have hlt : j.toNat < l.length := by omega
        have M := E.mems d
        unfold MR at M; rw [hm] at M; simp only at M
        rcases M with ⟨_, hl, _⟩ | ⟨g, e', cap, css, post, hβ, hh, hr, hc, happ⟩
        · subst hl; simp at hlt
        · refine put_ok (run (by rw [hx, hβ, hiv]; exact run_indexAt t1 t2 h0 h1' w)) ?_
          simp only [AR, hm]
          exact ⟨hlt, _, by rw [hβ]; rfl, by rw [t3]⟩
    · rename_i d off len app ty l h1 h2
      cases hd : decide (ty = tt)
      · trivial
      · obtain rfl := of_decide_eq_true hd
        intro h0 h1'
        replace h0 : (0 : Int) ≤ j := h0
        replace h1' : j < (len : Int) := h1'
        obtain ⟨L1, L2⟩ := L
        rw [h1] at L1 L2
        simp only at L2
        have hm : st.m d = .own app ty l := by rw [← L2]; exact h2
        simp only [AR, hm] at L1
        obtain ⟨hle, cap', hcap, hv⟩ := L1
        have hlt : off + j.toNat < l.length := by omega
        have M := E.mems d
        unfold MR at M; rw [hm] at M; simp only at M
        rcases M with ⟨_, hl, _⟩ | ⟨g, e', cap, css, post, hβ, hh, hr, hc, happ⟩
        · subst hl; simp at hlt
        · rw [hβ] at hv
          refine put_ok (run (by rw [hv, hiv]; exact run_indexAt t1 t2 h0 h1' w)) ?_
          simp only [AR, hm]
          refine ⟨hlt, _, by rw [hβ]; rfl, ?_⟩
          rw [add_add, t3, ← Nat.add_mul]
    · trivial
  · rename_i k j e tt size len hi hti
    obtain ⟨j, rfl⟩ : ∃ j' : Int, j' = j := ⟨j, rfl⟩
    rw [hti] at ht
    obtain ⟨t1, ie, t2, t3⟩ := ht
    have hiv := look_int E hi
    split
    · rename_i g h1
      split
      · rename_i v hgv
        cases hb : decide (Ty.int v.1 = tt) && Nat.beq v.2.length len && Nat.ble 2 len
        · trivial
        · simp only [Bool.and_eq_true] at hb
          obtain ⟨⟨hb1, hb2⟩, hb3⟩ := hb
          obtain rfl := of_decide_eq_true hb1
          have hb2 := Nat.eq_of_beq_eq_true hb2
          have hb3 := Nat.le_of_ble_eq_true hb3
          intro h0 h1'
          replace h0 : (0 : Int) ≤ j := h0
          replace h1' : j < (len : Int) := h1'
          have hx : a.eval x = .pointer (some ⟨g, 0, none⟩) := by have := L.1; rw [h1] at this; exact this
          obtain ⟨e', cs, fr, hh, hcs⟩ := hL g v.1 v.2 hgv
          have hlt : j.toNat < v.2.length := by omega
          refine put_ok (run (by rw [hx, hiv]; exact run_indexAt_arr t1 t2 h0 h1' hb3 w)) ⟨_, [.int v.1 (rdT (.int v.1) v.2 j)], rfl, ?_, by simp [R], fun q c hq => ?_⟩
          · rw [add_block]; exact hg g v hgv
          · cases q with
            | succ q => simp at hq
            | zero =>
              simp at hq; subst hq
              rw [add_zero, t3]
              have : Addr.add ⟨g, 0, none⟩ (j.toNat * (Ty.int v.1).n) = ⟨g, j.toNat, none⟩ := by simp [Ty.n, Addr.add]; intro h; omega
              rw [this, cell_of_row w g _ _ e' fr hh, hcs]
              simp [rdT, List.getD, hlt]
      · trivial
    · trivial
  · rename_i k j e tt len z hi hti
    obtain ⟨j, rfl⟩ : ∃ j' : Int, j' = j := ⟨j, rfl⟩
    rw [hti] at ht
    obtain ⟨t0, t1, ⟨ie, t2, t3⟩, _⟩ := ht
    have hiv := look_int E hi
    split
    · rename_i d off l h1 h2
      obtain ⟨hm, g, e', cs, hβ, hv, _⟩ := box_at E h1 h2
      split
      · split
        · rename_i q0 q1
          have q0 : (0 : Int) ≤ j := of_decide_eq_true q0
          have q1 : j.toNat < len := by simpa [Nat.blt_eq] using q1
          refine put_ok (run (by rw [hv, hiv]; exact run_indexAt_arr t1 t2 q0 (by omega) t0 w)) ?_
          simp only [AR, hm]
          exact ⟨_, hβ, rfl, by rw [add_add, t3, Nat.mul_one]⟩
        · trivial
      · split
        · rename_i hoff
          have hoff := Nat.eq_of_beq_eq_true hoff
          subst hoff
          intro h0 h1'
          replace h0 : (0 : Int) ≤ j := h0
          replace h1' : j < (len : Int) := h1'
          refine put_ok (run (by rw [hv, hiv]; exact run_indexAt_arr t1 t2 h0 h1' t0 w)) ?_
          simp only [AR, hm]
          exact ⟨⟨h0, h1'⟩, _, hβ, rfl, by rw [add_add, t3, Nat.mul_one, Nat.zero_add]⟩
        · trivial
    · trivial
  · trivial
end Go.Proofs.YtlnbcpcnpofnoaaGreatDoor.E

/- Each operation does what the evaluator says, 4: stores, new variables and rows. -/
namespace Go.Proofs.YtlnbcpcnpofnoaaGreatDoor.E
open Go Go.RowKit
set_option linter.unusedVariables false
set_option linter.unusedSimpArgs false

variable {P : Program} {X : Nat → Prop} {F : Root} {w0 : World} {n : Nat} {G : Gh} {st : St} {a : Act} {w : World} {o : Oper}

theorem add_at (g p q : Nat) : Addr.add ⟨g, p, none⟩ q = ⟨g, p + q, none⟩ := by unfold Addr.add; split <;> simp_all
theorem TI.size {T : TypeId} {ti : TI} (ht : ti.ok P T) (hn : 0 < ti.n) : ∃ i, P.info? T = some i ∧ i.size = ti.n := by
  cases ti with
  | unk => simp [TI.n] at hn
  | plain => obtain ⟨d, i, h1, h2, h3, h4, h5⟩ := ht; exact ⟨i, h4, h5⟩
  | bool => obtain ⟨h1, i, h2, h3, _⟩ := ht; exact ⟨i, h2, h3⟩
  | str => obtain ⟨h1, i, h2, h3, _⟩ := ht; exact ⟨i, h2, h3⟩
  | int k => obtain ⟨h1, i, h2, h3, _⟩ := ht; exact ⟨i, h2, h3⟩
  | slice e ty size bytes => obtain ⟨h1, ⟨i, h2, h3, _⟩, _⟩ := ht; exact ⟨i, h2, h3⟩
  | arr e ty size len => simp [TI.n] at hn
  | vec e ty len z => obtain ⟨_, _, _, _, i, z', h2, h3, _⟩ := ht; exact ⟨i, h2, h3⟩
  | struct fs s z => obtain ⟨fs', i, z', h1, h2, h3, _⟩ := ht; exact ⟨i, h2, h3⟩
/-- A piece of a block is written over. -/
theorem run_storeVar {T : TypeId} {i : TypeInfo} (hi : P.info? T = some i) {g : Nat} {e : TypeId} {pre mid post : List Value} (hh : w.heap[g]? = some (.cells (pre ++ mid ++ post).toArray e (0, 0)))
    {off : Nat} {v : Value} (hv : v.cells.size = i.size) (hle : off + i.size ≤ mid.length) (hone : ∀ c ∈ v.cells.toList, c.oneCell' = true) :
    ∃ w', (storeVar T (Addr.add ⟨g, pre.length, none⟩ off) v).run P w = .ok () w' ∧ But g w w' ∧
      w'.heap[g]? = some (.cells (pre ++ (mid.take off ++ v.cells.toList ++ mid.drop (off + i.size)) ++ post).toArray e (0, 0)) := by
  have hlen : v.cells.toList.length = i.size := by simpa using hv
  have hst := run_storeCells_at P g (pre.length + off) e v.cells.toList 0 _ w hh (by simp only [List.size_toArray, List.length_append]; omega) hone
  have hrun : (storeVar T (Addr.add ⟨g, pre.length, none⟩ off) v).run P w = (storeCells ⟨g, pre.length + off, none⟩ v.cells.toList).run P w := by
    simp [storeVar, run_sizeOf hi, hv, add_at]
  refine ⟨_, hrun.trans hst, ?_, ?_⟩
  · exact ⟨by simp, rfl, rfl, rfl, fun k _ hk => setRow_other w g k _ hk⟩
  · rw [setRow_heap w g _ _ e _ hh]
    congr 2
    apply congrArg
    simp only [Nat.add_zero, hlen]
    have e1 : (pre ++ mid ++ post).take (pre.length + off) = pre ++ mid.take off := by
      rw [List.append_assoc, List.take_append, List.take_of_length_le (by omega), show pre.length + off - pre.length = off by omega, List.take_append, show off - mid.length = 0 by omega]
      simp
    have e2 : (pre ++ mid ++ post).drop (pre.length + off + i.size) = mid.drop (off + i.size) ++ post := by
      rw [List.append_assoc, List.drop_append, List.drop_eq_nil_of_le (by omega), show pre.length + off + i.size - pre.length = off + i.size by omega, List.drop_append, show off + i.size - mid.length = 0 by omega]
      simp
    rw [e1, e2]
    simp [List.append_assoc]
theorem ok_store_run {x y : Operand} {T : TypeId} (ho : o.op = .store T x y) {ad : Addr} (hx : a.eval x = .pointer (some ad)) {w' : World} (h : (storeVar T ad (a.eval y)).run P w = .ok () w') : (execOp a.eval o).run P w = .ok .skip w' := by
  simp [execOp, ho, Instr.storeAt, Instr.sureAddr, hx, h]
theorem flatten_set {k : Nat} : ∀ (css : List (List Value)) (i : Nat) (c : List Value), (∀ c ∈ css, c.length = k) → i < css.length → (css.set i c).flatten = css.flatten.take (i * k) ++ c ++ css.flatten.drop (i * k + k)
  | [], i, c, _, h => by simp at h
  | d :: css, 0, c, h, _ => by
    have hd := h d (by simp)
    simp [List.drop_append, hd]
  | d :: css, i + 1, c, h, hi => by
    have hd := h d (by simp)
    have ih := flatten_set css i c (fun c hc => h c (by simp [hc])) (by simpa using hi)
    simp only [List.set_cons_succ, List.flatten_cons, ih]
    rw [List.take_append, List.take_of_length_le (l := d) (by rw [hd, Nat.add_mul]; omega), List.drop_append, List.drop_eq_nil_of_le (as := d) (by rw [hd, Nat.add_mul]; omega),
      show (i + 1) * k - d.length = i * k by rw [hd, Nat.add_mul]; omega, show (i + 1) * k + k - d.length = i * k + k by rw [hd, Nat.add_mul]; omega]
    simp [List.append_assoc]
theorem VR_cell1 {own : Nat → Prop} {ty : Ty} {x : ty.D} {v u : Value} (h : VR w own ty x v) (hu : v.cells.toList = [u]) (h2 : ∀ t, ty ≠ .agg t) (h3 : ∀ t u, ty ≠ .pair t u) : VR w own ty x u := by
  have h1 := h.1
  rw [hu] at h1
  exact VR_cell h1 h2 h3
theorem vecSet_gt {own : Nat → Prop} {β : Nat → Value} {m : Nat → MB} {ty : Ty} {i : Int} {v : ty.D} : ∀ (j : Nat) {xs : List ty.D} {cs : List Value}, All2 (VR w own ty) xs cs → i < (j : Int) → All2 (AR w own β m) (vecSet ty i v j xs) cs
  | _, [], [], _, _ => trivial
  | j, x :: xs, c :: cs, ⟨h, r⟩, hj => by
    refine ⟨?_, vecSet_gt (j + 1) r (by omega)⟩
    have : ¬ i = (j : Int) := by omega
    show VR w own ty (ite (i = (j : Int)) v x) c
    rw [if_neg this]; exact h
theorem vecSet_set {own : Nat → Prop} {β : Nat → Value} {m : Nat → MB} {ty : Ty} {i : Int} {v : ty.D} {u : Value} (h0 : 0 ≤ i) (hu : VR w own ty v u) : ∀ (j : Nat) {xs : List ty.D} {cs : List Value}, All2 (VR w own ty) xs cs → (j : Int) ≤ i →
    All2 (AR w own β m) (vecSet ty i v j xs) (cs.set (i.toNat - j) u)
  | _, [], [], _, _ => trivial
  | j, x :: xs, c :: cs, ⟨h, r⟩, hj => by
    by_cases e : i = (j : Int)
    · have e2 : i.toNat - j = 0 := by omega
      rw [e2]
      refine ⟨?_, vecSet_gt (j + 1) r (by omega)⟩
      show VR w own ty (ite (i = (j : Int)) v x) u
      rw [if_pos e]; exact hu
    · obtain ⟨k, hk⟩ : ∃ k, i.toNat - j = k + 1 := ⟨i.toNat - j - 1, by omega⟩
      have ih := vecSet_set (β := β) (m := m) h0 hu (j + 1) r (by omega)
      rw [show i.toNat - (j + 1) = k by omega] at ih
      rw [hk]
      refine ⟨?_, ih⟩
      show VR w own ty (ite (i = (j : Int)) v x) c
      rw [if_neg e]; exact h
theorem vecSet_AR {own : Nat → Prop} {β : Nat → Value} {m : Nat → MB} {ty : Ty} {i : Int} {v : ty.D} {u : Value} (h0 : 0 ≤ i) (hu : VR w own ty v u) {xs : List ty.D} {cs : List Value} (h : All2 (VR w own ty) xs cs) (hl : i.toNat < cs.length) :
    All2 (AR w own β m) (vecSet ty i v 0 xs) (cs.take i.toNat ++ [u] ++ cs.drop (i.toNat + 1)) := by
  have := vecSet_set (β := β) (m := m) h0 hu 0 h (by omega)
  rw [Nat.sub_zero, List.set_eq_take_append_cons_drop, if_pos hl] at this
  simpa using this
theorem ok_store (E : EnvR X F w0 n G st a w) {x y : Operand} {T : TypeId} (ho : o.op = .store T x y) {Γ : Ctx} (ht : (Γ.ty T).ok P T) : OpOK P X G st o a w (evOp Γ o st.look) := by
  unfold evOp; rw [ho]; simp only
  split
  · rename_i d off l h1 h2
    obtain ⟨hm, g, e, mid, hβ, hv, hh, hr, hone⟩ := box_at E h1 h2
    split
    · rename_i cs hcs
      obtain ⟨hcs1, hcs2⟩ := flat_AR E.mems hcs (look_LR E y)
      split
      · rename_i hb1 hb2
        have hb1 := Nat.eq_of_beq_eq_true hb1
        have hb2 := Nat.le_of_ble_eq_true hb2
        have hl := hr.length
        have hl2 := hcs1.length
        have hpos : 0 < (Γ.ty T).n := by
          rw [← hb1]
          unfold flat at hcs
          split at hcs <;> first | (cases hcs; done) | (obtain rfl := Option.some.inj hcs; first | (rw [cellsOf_len]; exact Ty.n_pos _) | simp)
        obtain ⟨i, hi, his⟩ := TI.size ht hpos
        obtain ⟨w', hrun, hbut, hh'⟩ := run_storeVar hi hh (off := off) (v := a.eval y) (by rw [his, ← hb1]; simpa using hl2.symm) (by rw [his, ← hb1]; omega) hcs2
        refine ⟨w', ok_store_run ho hv hrun, ⟨l, hm⟩, g, e, _, hβ, hbut, hh', ?_, ?_⟩
        · have A : Agree w w' (Own X G.β st.m) (Own X G.β st.m) := ⟨fun k hk hno => hbut.heap k hk fun e => hno (.inr ⟨d, by rw [blk_box hm, hβ, e]; rfl⟩), fun _ _ h => h⟩
          have hsz : i.size = cs.length := by rw [his, hb1]
          rw [hsz]
          exact (All2.append (All2.append (All2.take off hr) hcs1) (All2.drop (off + cs.length) hr)).mono fun _ _ => AR_mono A (fun _ _ => rfl) (fun _ => Later.refl _)
        · intro c hc
          rcases List.mem_append.1 hc with hc | hc
          · rcases List.mem_append.1 hc with hc | hc
            · exact hone c (List.mem_of_mem_take hc)
            · exact hcs2 c hc
          · exact hone c (List.mem_of_mem_drop hc)
      · trivial
    · trivial
  · rename_i d ty i len l h1 h2
    obtain ⟨i, rfl⟩ : ∃ j : Int, j = i := ⟨i, rfl⟩
    split
    · rename_i xs v hf hl hx hy hrows
      obtain ⟨hi, hm, g, e, mid, hβ, hv, hh, hr, hone⟩ := vbox_at E h1 h2
      have hl := Nat.eq_of_beq_eq_true hl
      have hvs := vecL_VR hx hr
      have hll := hr.length
      have hlt : i.toNat < mid.length := by omega
      have hvr := asOne_VR E.mems (look_LR E y) hy (fun _ h => h) (own' := Own X G.β st.m) (by rw [hrows]; intro d hd; cases hd)
      obtain ⟨n1, n2, n3, n4, n5⟩ := TI.leaf_one hf
      obtain ⟨ii, hii, his⟩ := TI.size ht (by rw [n1]; omega)
      have hsz : (a.eval y).cells.size = 1 := by have := R_len hvr.1; simpa [n3] using this
      obtain ⟨u, hu⟩ : ∃ u, (a.eval y).cells.toList = [u] := List.length_eq_one_iff.1 (by simpa using hsz)
      obtain ⟨w', hrun, hbut, hh'⟩ := run_storeVar hii hh (off := i.toNat) (v := a.eval y) (by rw [his, n1, hsz]) (by rw [his, n1]; omega) (R_one hvr.1)
      have A : Agree w w' (Own X G.β st.m) (Own X G.β st.m) := ⟨fun k hk hno => hbut.heap k hk fun e => hno (.inr ⟨d, by rw [blk_box hm, hβ, e]; rfl⟩), fun _ _ h => h⟩
      have huv : VR w (Own X G.β st.m) ty v u := VR_cell1 hvr hu n4 n5
      refine ⟨w', ok_store_run ho hv hrun, ⟨l, hm⟩, g, e, _, hβ, hbut, hh', ?_, ?_⟩
      · rw [his, n1, hu]
        exact (vecSet_AR hi.1 huv hvs hlt).mono fun _ _ => AR_mono A (fun _ _ => rfl) (fun _ => Later.refl _)
      · intro c hc
        rcases List.mem_append.1 hc with hc | hc
        · rcases List.mem_append.1 hc with hc | hc
          · exact hone c (List.mem_of_mem_take hc)
          · exact R_one hvr.1 c hc
        · exact hone c (List.mem_of_mem_drop hc)
    · trivial
  · rename_i d i app ty l h1 h2
    split
    · rename_i v hf hv hrows
      obtain ⟨hm, hi, g, e, cap, css, post, hβ, hx, hh, hr, hc, happ⟩ := elt_at E h1 h2
      have hvr := asOne_VR E.mems (look_LR E y) hv (fun _ h => h) (own' := Own X G.β st.m) (by rw [hrows]; intro d hd; cases hd)
      have hR := hvr.1
      have hlens := All2_lens hr
      have hfl := flat_len hr
      have hsz : (Γ.ty T).n = ty.n := by
        cases hti : Γ.ty T <;> rw [hti] at hf <;> cases ty <;> simp [TI.fits] at hf <;> simp [TI.n, Ty.n, hf]
      obtain ⟨ii, hii, his⟩ := TI.size ht (by rw [hsz]; exact Ty.n_pos _)
      have hile : i * ty.n + ty.n ≤ css.flatten.length := by
        rw [hfl, ← Nat.succ_mul]; exact Nat.mul_le_mul_right _ hi
      obtain ⟨w', hrun, hbut, hh'⟩ := run_storeVar hii hh (off := i * ty.n) (v := a.eval y) (by rw [his, hsz]; simpa using R_len hR) (by rw [his, hsz]; exact hile) (R_one hR)
      have A : Agree w w' (Own X G.β st.m) (Own X G.β st.m) := ⟨fun k hk hno => hbut.heap k hk fun e => hno (.inr ⟨d, by rw [blk_row hm, hβ, e]; rfl⟩), fun _ _ h => h⟩
      have hcl : i < css.length := by rw [← hr.length]; exact hi
      have hset := flatten_set css i (a.eval y).cells.toList hlens hcl
      rw [his, hsz] at hh'
      have hlen' : (css.set i (a.eval y).cells.toList).flatten.length = css.flatten.length := by
        rw [hset]; simp only [List.length_append, List.length_take, List.length_drop, R_len hR]; omega
      refine ⟨w', ok_store_run ho hx hrun, ⟨l, hm, by simp⟩, g, e, cap, css.set i (a.eval y).cells.toList, post, by simpa using hβ, hbut, by rw [hset]; exact hh', (All2.set i hr hR).mono fun _ _ => R_mono A, by simpa using hc, ?_⟩
      rw [hlen']; exact happ
    · trivial
  · trivial
theorem ok_nilCheck (E : EnvR X F w0 n G st a w) {x : Operand} (ho : o.op = .nilCheck x) {Γ : Ctx} : OpOK P X G st o a w (evOp Γ o st.look) := by
  unfold evOp; rw [ho]; simp only
  have run : ∀ ad : Addr, a.eval x = .pointer (some ad) → (execOp a.eval o).run P w = .ok (.value (a.eval x)) w := by
    intro ad h; simp [execOp, ho, h]
  have L := (look_LR E x).1
  split
  · rename_i d off l h1 h2
    obtain ⟨hm, g, e, cs, hβ, hv, _⟩ := box_at E h1 h2
    rw [h1] at L
    exact put_ok (run _ hv) L
  · rename_i d i app ty l h1 h2
    obtain ⟨_, _, g, e, cap, css, post, _, hv, _⟩ := elt_at E h1 h2
    rw [h1] at L
    exact put_ok (run _ hv) L
  · rename_i b ty y h1
    rw [h1] at L
    have L' := L
    obtain ⟨ad, cs, hv, _⟩ := L
    exact put_ok (run _ hv) L'
  · trivial
theorem TI.zero_ok {own : Nat → Prop} {β : Nat → Value} {m : Nat → MB} {T : TypeId} {ti : TI} (ht : ti.ok P T) {z : List AV} (hz : ti.zero = some z) :
    ∃ i v, P.info? T = some i ∧ i.zero = some v ∧ All2 (AR w own β m) z v.cells.toList ∧ ∀ c ∈ v.cells.toList, c.oneCell' = true := by
  cases ti <;> simp only [TI.zero] at hz <;> first | (cases hz; done) | (obtain rfl := Option.some.inj hz)
  · obtain ⟨_, i, h1, _, h3⟩ := ht; exact ⟨i, _, h1, h3, ⟨bool_VR _ _ _, trivial⟩, by simp [Value.cells, Value.oneCell']⟩
  · obtain ⟨_, i, h1, _, h3⟩ := ht; exact ⟨i, _, h1, h3, ⟨str_VR _ _ _, trivial⟩, by simp [Value.cells, Value.oneCell']⟩
  · obtain ⟨_, i, h1, _, h3⟩ := ht; exact ⟨i, _, h1, h3, ⟨int_VR _ _ _ _, trivial⟩, by simp [Value.cells, Value.oneCell']⟩
  · obtain ⟨_, ⟨i, h1, _, h3⟩, _⟩ := ht; exact ⟨i, _, h1, h3, ⟨VR_cell (by simp [R]) (by simp) (by simp), trivial⟩, by simp [Value.cells, Value.oneCell']⟩
  · obtain ⟨_, _, _, _, i, z', h1, _, h3, h4, h5, _⟩ := ht; exact ⟨i, _, h1, h3, h4 _ _ _ _, h5⟩
  · obtain ⟨fs, i, z', _, h1, _, h3, h4, h5, _⟩ := ht; exact ⟨i, _, h1, h3, h4 _ _ _ _, h5⟩
theorem ok_alloc (E : EnvR X F w0 n G st a w) {T : TypeId} (ho : o.op = .alloc T) {Γ : Ctx} (ht : (Γ.ty T).ok P T) : OpOK P X G st o a w (evOp Γ o st.look) := by
  unfold evOp; rw [ho]; simp only
  split
  · rename_i z hz
    obtain ⟨i, v, h1, h2, h3, h4⟩ := TI.zero_ok (w := w) (own := Own X G.β st.m) (β := G.β) (m := st.m) ht hz
    refine ⟨w.heap.size, T, v.cells.toList, w.alloc (.cells v.cells T), ?_, Grows.alloc w _, Nat.le_refl _, heap_alloc_new w _, h3, h4⟩
    simp [execOp, ho, Instr.alloc, run_zero h1 h2, newVar, newRow]
  · trivial
theorem ok_box (E : EnvR X F w0 n G st a w) {T : TypeId} {x : Operand} (ho : o.op = .box T x) {Γ : Ctx} : OpOK P X G st o a w (evOp Γ o st.look) := by
  unfold evOp; rw [ho]; simp only
  split
  · rename_i l hl
    obtain ⟨h1, h2⟩ := flat_AR E.mems hl (look_LR E x)
    refine ⟨w.heap.size, T, (a.eval x).cells.toList, w.alloc (.cells (a.eval x).cells T), ?_, Grows.alloc w _, Nat.le_refl _, heap_alloc_new w _, h1, h2⟩
    simp [execOp, ho, Instr.box, newVar, newRow]
  · trivial
end Go.Proofs.YtlnbcpcnpofnoaaGreatDoor.E

/- Each operation does what the evaluator says, 5: what is built. -/
namespace Go.Proofs.YtlnbcpcnpofnoaaGreatDoor.E
open Go Go.RowKit
set_option linter.unusedVariables false
set_option linter.unusedSimpArgs false

variable {P : Program} {X : Nat → Prop} {F : Root} {w0 : World} {n : Nat} {G : Gh} {st : St} {a : Act} {w : World} {o : Oper}

theorem place_list (off : Nat) : ∀ (vs : List Value) (k : Nat) (cells : Array Value), off + k + vs.length ≤ cells.size →
    ((vs.zipIdx k).foldl (fun cs (x : Value × Nat) => cs.setIfInBounds (off + x.2) x.1) cells).toList = cells.toList.take (off + k) ++ vs ++ cells.toList.drop (off + k + vs.length)
  | [], k, cells, _ => by simp
  | v :: vs, k, cells, h => by
    simp only [List.length_cons] at h
    simp only [List.zipIdx_cons, List.foldl_cons]
    rw [place_list off vs (k + 1) (cells.setIfInBounds (off + k) v) (by simp; omega), Array.toList_setIfInBounds]
    have := list_seg_step cells.toList (off + k) v vs (by simp; omega)
    simpa [Nat.add_assoc] using this
theorem place_toList (off : Nat) (v : Value) (cells : Array Value) (h : off + v.cells.size ≤ cells.size) :
    (v.cells.zipIdx.foldl (fun cs (x : Value × Nat) => cs.setIfInBounds (off + x.2) x.1) cells).toList = cells.toList.take off ++ v.cells.toList ++ cells.toList.drop (off + v.cells.size) := by
  rw [← Array.foldl_toList, Array.toList_zipIdx]
  have := place_list off v.cells.toList 0 cells (by simpa using h)
  simpa using this
theorem fill_cons {place : Nat → Option (Nat × Nat)} {cells : Array Value} {i : Nat} {v : Value} {rest : List (Nat × Value)} {off size : Nat} (hp : place i = some (off, size)) (hs : v.cells.size = size) (hle : off + size ≤ cells.size) :
    Instr.fill place cells ((i, v) :: rest) = Instr.fill place (v.cells.zipIdx.foldl (fun cs (x : Value × Nat) => cs.setIfInBounds (off + x.2) x.1) cells) rest := by
  have : ¬ (off + v.cells.size > cells.size) := by omega
  simp only [Instr.fill, hp, hs, ne_eq, not_true_eq_false, decide_false, Bool.false_or]
  rw [if_neg (by simp; omega)]
/-- A struct's parts, put in their places. -/
theorem putParts_ok {N : Nat} (E : EnvR X F w0 n G st a w) {fs : List (Nat × Nat)} (hb : ∀ (i : Nat) (p : Nat × Nat), fs[i]? = some p → p.1 + p.2 ≤ N) : ∀ (parts : List (Nat × Operand)) {z l : List AV} {cells : Array Value}, putParts fs st.look parts z = some l →
    All2 (AR w (Own X G.β st.m) G.β st.m) z cells.toList → (∀ c ∈ cells.toList, c.oneCell' = true) → cells.size = N →
    ∃ cells', Instr.fill (fs.toArray[·]?) cells (parts.map fun p => (p.1, a.eval p.2)) = some cells' ∧ All2 (AR w (Own X G.β st.m) G.β st.m) l cells'.toList ∧ ∀ c ∈ cells'.toList, c.oneCell' = true
  | [], z, l, cells, h, hz, h1, _ => by simp only [putParts] at h; obtain rfl := Option.some.inj h; exact ⟨cells, by simp [Instr.fill], hz, h1⟩
  | (i, x) :: r, z, l, cells, h, hz, h1, hN => by
    simp only [putParts] at h
    split at h
    · rename_i p cs hp hcs
      split at h
      · rename_i hlen
        have hlen := Nat.eq_of_beq_eq_true hlen
        obtain ⟨f1, f2⟩ := flat_AR E.mems hcs (look_LR E x)
        have hvs : (a.eval x).cells.size = p.2 := by have := f1.length; rw [← hlen]; simpa using this.symm
        have hle := hb i p hp
        have hpl := place_toList p.1 (a.eval x) cells (by rw [hvs, hN]; exact hle)
        have hz' : All2 (AR w (Own X G.β st.m) G.β st.m) (z.take p.1 ++ cs ++ z.drop (p.1 + p.2)) ((a.eval x).cells.zipIdx.foldl (fun cs (x : Value × Nat) => cs.setIfInBounds (p.1 + x.2) x.1) cells).toList := by
          rw [hpl, hvs]
          exact All2.append (All2.append (All2.take _ hz) f1) (All2.drop _ hz)
        have h1' : ∀ c ∈ ((a.eval x).cells.zipIdx.foldl (fun cs (x : Value × Nat) => cs.setIfInBounds (p.1 + x.2) x.1) cells).toList, c.oneCell' = true := by
          rw [hpl]
          intro c hc
          rcases List.mem_append.1 hc with hc | hc
          · rcases List.mem_append.1 hc with hc | hc
            · exact h1 c (List.mem_of_mem_take hc)
            · exact f2 c hc
          · exact h1 c (List.mem_of_mem_drop hc)
        have hN' : ((a.eval x).cells.zipIdx.foldl (fun cs (x : Value × Nat) => cs.setIfInBounds (p.1 + x.2) x.1) cells).size = N := by
          rw [← Array.length_toList, hpl]
          simp only [List.length_append, List.length_take, List.length_drop, Array.length_toList, hvs, hN]
          omega
        obtain ⟨cells', hf, hr, hr1⟩ := putParts_ok E hb r h hz' h1' hN'
        refine ⟨cells', ?_, hr, hr1⟩
        simp only [List.map_cons]
        rw [fill_cons (off := p.1) (size := p.2) (by simpa using hp) hvs (by rw [hN]; exact hle)]
        exact hf
      · cases h
    · cases h
theorem fill_mono {place place' : Nat → Option (Nat × Nat)} (h : ∀ k p, place k = some p → place' k = some p) : ∀ (parts : List (Nat × Value)) {cells cells' : Array Value}, Instr.fill place cells parts = some cells' → Instr.fill place' cells parts = some cells'
  | [], _, _, e => by simpa [Instr.fill] using e
  | (i, v) :: r, cells, cells', e => by
    simp only [Instr.fill] at e ⊢
    cases hp : place i with
    | none => rw [hp] at e; cases e
    | some p =>
      rw [hp] at e
      rw [h i p hp]
      simp only at e ⊢
      split at e
      · cases e
      · rename_i hc
        rw [if_neg hc]
        exact fill_mono h r e
theorem ok_build (E : EnvR X F w0 n G st a w) {T : TypeId} {parts : Array (Nat × Operand)} (ho : o.op = .build T parts) {Γ : Ctx} (ht : (Γ.ty T).ok P T) : OpOK P X G st o a w (evOp Γ o st.look) := by
  unfold evOp; rw [ho]; simp only
  split
  · rename_i fs size z hti
    rw [hti] at ht
    obtain ⟨fs', i, z', t1, t2, t3, t4, t5, t6, t7, t8, t9⟩ := ht
    split
    · rename_i l hl
      obtain ⟨cells', hf, hr, hr1⟩ := putParts_ok E (N := size) (fs := fs) (fun k p hp => by obtain ⟨_, _, _, _, _, _, _, h⟩ := t9 k p hp; exact h) parts.toList hl (t5 _ _ _ _) t6 t7
      have hb : P.built T (parts.map fun (i, x) => (i, a.eval x)).toList = some cells' := by
        unfold Program.built
        rw [t2, t1]
        simp only [t4, t8]
        rw [Array.toList_map]
        simpa [Value.cells] using hf
      refine put_ok (x := .agg cells') ?_ ?_
      · simp [execOp, ho, run_build w T _ cells' hb]
      · have := aggOf_AR hr hr1
        simpa using this
    · trivial
  · rename_i e ty len z hti
    rw [hti] at ht
    obtain ⟨_, t1, ⟨ie, t2, t3⟩, _, i, z', t4, t5, t6, t7, t8, t9⟩ := ht
    have hpl : ∀ (k : Nat) (p : Nat × Nat), ((List.range len).map fun i => (i, 1))[k]? = some p → p = (k, 1) ∧ k < len := by
      intro k p hp
      rw [List.getElem?_map] at hp
      obtain ⟨q, hq, rfl⟩ := Option.map_eq_some_iff.1 hp
      obtain ⟨h1, h2⟩ := List.getElem?_eq_some_iff.1 hq
      rw [List.getElem_range] at h2
      rw [List.length_range] at h1
      exact ⟨by rw [h2], h1⟩
    split
    · rename_i l hl
      obtain ⟨cells', hf, hr, hr1⟩ := putParts_ok E (N := len) (fs := (List.range len).map fun i => (i, 1)) (fun k p hp => by obtain ⟨rfl, h⟩ := hpl k p hp; exact h) parts.toList hl (t7 _ _ _ _) t8 t9
      have hb : P.built T (parts.map fun (i, x) => (i, a.eval x)).toList = some cells' := by
        unfold Program.built
        rw [t4, t1]
        simp only [t6, t2]
        rw [Array.toList_map]
        refine fill_mono (place := (((List.range len).map fun i => (i, 1)).toArray[·]?)) (fun k p hp => ?_) _ (by simpa [Value.cells] using hf)
        obtain ⟨rfl, h⟩ := hpl k p (by simpa using hp)
        simp [t3]
      refine put_ok (x := .agg cells') ?_ ?_
      · simp [execOp, ho, run_build w T _ cells' hb]
      · have := aggOf_AR hr hr1
        simpa using this
    · trivial
  · trivial
theorem range_mod (z : Array Value) (hz : 0 < z.size) : ∀ k : Nat, (List.range (k * z.size)).map (fun j => z[j % z.size]!) = (List.replicate k z.toList).flatten
  | 0 => by simp
  | k + 1 => by
    have h1 : (List.range z.size).map (fun j => z[j % z.size]!) = z.toList := by
      apply List.ext_getElem?
      intro j
      by_cases hj : j < z.size
      · simp [hj, Nat.mod_eq_of_lt hj]
      · simp [hj]
    rw [show (k + 1) * z.size = z.size + k * z.size by rw [Nat.add_mul]; omega, List.range_add, List.map_append, h1, List.map_map, List.replicate_succ, List.flatten_cons, ← range_mod z hz k]
    congr 1
    apply List.map_congr_left
    intro j _
    simp
theorem madeCells_flat (z : Array Value) (hz : 0 < z.size) (k : Nat) : (madeCells z (k * z.size)).toList = (List.replicate k z.toList).flatten := by
  rw [← range_mod z hz k]
  simp [madeCells]
theorem All2_replicate {α β : Type} {Q : α → β → Prop} {x : α} {y : β} (h : Q x y) : ∀ k : Nat, All2 Q (List.replicate k x) (List.replicate k y)
  | 0 => trivial
  | k + 1 => by simp only [List.replicate_succ]; exact ⟨h, All2_replicate h k⟩
/-- A slice's elements, put in their places. -/
theorem putElems_ok (E : EnvR X F w0 n G st a w) {ty : Ty} : ∀ (parts : List (Nat × Operand)) {l l' : List ty.D} {css : List (List Value)} {cells : Array Value}, putElems ty st.look parts l = some l' →
    All2 (R w (Own X G.β st.m) ty) l css → cells.toList = css.flatten →
    ∃ css', Instr.fill (fun i => some (i * ty.n, ty.n)) cells (parts.map fun p => (p.1, a.eval p.2)) = some css'.flatten.toArray ∧ All2 (R w (Own X G.β st.m) ty) l' css'
  | [], l, l', css, cells, h, hr, hc => by
    simp only [putElems] at h; obtain rfl := Option.some.inj h
    exact ⟨css, by simp [Instr.fill, ← hc], hr⟩
  | (i, x) :: r, l, l', css, cells, h, hr, hc => by
    simp only [putElems] at h
    split at h
    · rename_i v hv
      split at h
      · rename_i hrows hlt
        have hlt : i < l.length := by simpa [Nat.blt_eq] using hlt
        have hvr := asOne_VR E.mems (look_LR E x) hv (fun _ h => h) (own' := Own X G.β st.m) (by rw [hrows]; intro d hd; cases hd)
        have hR := hvr.1
        have hvs : (a.eval x).cells.size = ty.n := by simpa using R_len hR
        have hfl := flat_len hr
        have hile : i * ty.n + ty.n ≤ cells.size := by
          have : cells.size = css.flatten.length := by rw [← hc]; simp
          rw [this, hfl, ← Nat.succ_mul]; exact Nat.mul_le_mul_right _ hlt
        have hpl := place_toList (i * ty.n) (a.eval x) cells (by rw [hvs]; exact hile)
        have hset := flatten_set css i (a.eval x).cells.toList (All2_lens hr) (by rw [← hr.length]; exact hlt)
        obtain ⟨css', hf, hr'⟩ := putElems_ok E r (css := css.set i (a.eval x).cells.toList) h (All2.set i hr hR) (by rw [hpl, hset, hc, hvs])
        refine ⟨css', ?_, hr'⟩
        simp only [List.map_cons]
        rw [fill_cons (off := i * ty.n) (size := ty.n) rfl hvs hile]
        exact hf
      · cases h
    · cases h
theorem ok_buildSlice (E : EnvR X F w0 n G st a w) {T : TypeId} {len : Nat} {parts : Array (Nat × Operand)} (ho : o.op = .buildSlice T len parts) {Γ : Ctx} (ht : (Γ.ty T).ok P T) : OpOK P X G st o a w (evOp Γ o st.look) := by
  unfold evOp; rw [ho]; simp only
  split
  · rename_i e ty size bytes hti
    rw [hti] at ht
    obtain ⟨t1, _, i, z, t2, t3, t4, t5, t6⟩ := ht
    have hzs : z.cells.size = ty.n := by have := R_len (t6 w (Own X G.β st.m)); simpa using this
    split
    · split
      · rename_i hp
        have hp' : parts = #[] := by cases parts; simp_all
        subst hp'
        refine ⟨.slice (some ⟨w.heap.size, 0, none⟩) 0 0, w.alloc (.cells #[] e), ?_, Grows.alloc w _, .inr ⟨w.heap.size, e, 0, [], [], rfl, Nat.le_refl _, by rw [heap_alloc_new]; rfl, trivial, Nat.le_refl _, by simp, by unfold maxLen; omega⟩⟩
        simp [execOp, ho, Instr.buildSlice, run_underlying t1, sizeOf, typeInfo, t2, Instr.fill, newRow, show (Array.range 0) = #[] from rfl]
      · trivial
    · rename_i k hk
      have hk : (k + 1) * ty.n ≤ 16777216 := Nat.le_of_ble_eq_true hk
      split
      · rename_i l hl
        have hpos := Ty.n_pos ty
        obtain ⟨css', hf, hr⟩ := putElems_ok E parts.toList (css := List.replicate (k + 1) z.cells.toList) (cells := madeCells z.cells ((k + 1) * z.cells.size)) hl
          (All2_replicate (t6 _ _) _) (madeCells_flat _ (by rw [hzs]; exact hpos) _)
        have hll : l.length = k + 1 := by
          have h1 := hr.length
          have : ∀ (ps : List (Nat × Operand)) (l l' : List ty.D), putElems ty st.look ps l = some l' → l'.length = l.length := by
            intro ps
            induction ps with
            | nil => intro l l' h; simp only [putElems] at h; obtain rfl := Option.some.inj h; rfl
            | cons p ps ih =>
              intro l l' h
              simp only [putElems] at h
              split at h
              · split at h
                · rw [ih _ _ h]; simp
                · cases h
              · cases h
          rw [this _ _ _ hl]; simp
        have hne : ¬ (k + 1) * i.size = 0 := by rw [t3]; exact Nat.mul_ne_zero (by omega) (by omega)
        have hsm : ¬ (k + 1) * i.size > 2 ^ 24 := by rw [t3]; omega
        have hrun := run_buildSlice (P := P) w T e (k + 1) (parts.map fun (i, x) => (i, a.eval x)) css'.flatten.toArray i z t1 t2 t5 hsm hne (by
          rw [Array.toList_map, t3]
          have : (Array.range ((k + 1) * ty.n)).map (z.cells[· % z.cells.size]!) = madeCells z.cells ((k + 1) * z.cells.size) := by unfold madeCells; rw [hzs]
          rw [this]
          exact hf)
        have hgrow : Grows w (w.alloc (.cells css'.flatten.toArray e)) := Grows.alloc w _
        have A := (E.grows hgrow).2
        refine ⟨.slice (some ⟨w.heap.size, 0, none⟩) (k + 1) (k + 1), _, by simp [execOp, ho, hrun], hgrow, ?_⟩
        refine ⟨VR_cell ?_ (by simp) (by simp), ⟨_, by rw [hll]⟩⟩
        simp only [R]
        refine ⟨_, k + 1, by rw [hll], by rw [hll]; exact Nat.le_refl _, .inr ⟨_, css', rfl, ?_, hr.mono fun _ _ => R_mono A, fun j c hj => ?_⟩⟩
        · intro hown
          have hown : Own X G.β st.m w.heap.size := hown
          rcases hown with h | ⟨d, h⟩
          · have := E.xlt _ h; have := E.grown; omega
          · have := blk_lt (E.mems d) h; omega
        · have hh : (w.alloc (.cells css'.flatten.toArray e)).heap[w.heap.size]? = some (.cells ([] ++ css'.flatten ++ []).toArray e (0, 0)) := by rw [heap_alloc_new]; simp
          exact own_cells hh j hj
      · trivial
    · trivial
  · trivial
theorem sameOp_eval {x y : Operand} (h : sameOp x y = true) {k : IntKind} {j : Int} (hx : a.eval x = .int k j) : ∃ k', a.eval y = .int k' j := by
  unfold sameOp at h
  split at h
  · have := Nat.eq_of_beq_eq_true h; subst this; exact ⟨k, hx⟩
  · have := of_decide_eq_true h; subst this
    simp only [Act.eval] at hx ⊢
    cases hx; exact ⟨_, rfl⟩
  · cases h
theorem ok_makeSlice (E : EnvR X F w0 n G st a w) {T : TypeId} {x y : Operand} (ho : o.op = .makeSlice T x y) {Γ : Ctx} (ht : (Γ.ty T).ok P T) : OpOK P X G st o a w (evOp Γ o st.look) := by
  unfold evOp; rw [ho]; simp only
  split
  · rename_i k j e ty size bytes hx hti hs
    obtain ⟨j, rfl⟩ : ∃ j' : Int, j' = j := ⟨j, rfl⟩
    rw [hti] at ht
    obtain ⟨t1, _, i, z, t2, t3, t4, t5, t6⟩ := ht
    have hzs : z.cells.size = ty.n := by have := R_len (t6 w (Own X G.β st.m)); simpa using this
    intro h0 h1
    replace h0 : (0 : Int) ≤ j := h0
    replace h1 : j ≤ 1099511627776 := h1
    have hxv := look_int E hx
    obtain ⟨k', hyv⟩ := sameOp_eval hs hxv
    have hb : (i.bytes : Int) * j ≤ 281474976710656 := by
      have : (i.bytes : Int) ≤ 64 := by omega
      calc (i.bytes : Int) * j ≤ 64 * 1099511627776 := Int.mul_le_mul this h1 h0 (by omega)
        _ ≤ _ := by omega
    have hrun := run_make (P := P) w T e i z t1 t2 t5 k k' j j h0 (Int.le_refl _) hb (by omega)
    refine ⟨.slice (some ⟨w.heap.size, 0, none⟩) j.toNat j.toNat, _, ?_, Grows.alloc w (.cells (madeCells z.cells (j.toNat * i.size)) e), ?_⟩
    · simp [execOp, ho, hxv, hyv, hrun]
    · refine .inr ⟨w.heap.size, e, j.toNat, List.replicate j.toNat z.cells.toList, [], by simp, Nat.le_refl _, ?_, ?_, by simp, ?_, by unfold maxLen; omega⟩
      · rw [heap_alloc_new, t3, ← hzs]
        congr 2
        apply Array.ext'
        rw [madeCells_flat _ (by rw [hzs]; exact Ty.n_pos ty)]
        simp
      · exact All2_replicate (t6 _ _) _
      · have := flat_len (All2_replicate (Q := R w (Own X G.β st.m) ty) (t6 w (Own X G.β st.m)) j.toNat)
        simp only [List.length_nil, Nat.add_zero]
        rw [this]; simp
  · trivial
end Go.Proofs.YtlnbcpcnpofnoaaGreatDoor.E

/- Each operation does what the evaluator says, 6: pieces, conversions, builtins. -/
namespace Go.Proofs.YtlnbcpcnpofnoaaGreatDoor.E
open Go Go.RowKit
set_option linter.unusedVariables false
set_option linter.unusedSimpArgs false

variable {P : Program} {X : Nat → Prop} {F : Root} {w0 : World} {n : Nat} {G : Gh} {st : St} {a : Act} {w : World} {o : Oper}

theorem ok_index (E : EnvR X F w0 n G st a w) {T : TypeId} {x i : Operand} (ho : o.op = .index T x i) {Γ : Ctx} (ht : (Γ.ty T).ok P T) : OpOK P X G st o a w (evOp Γ o st.look) := by
  unfold evOp; rw [ho]; simp only
  split
  · rename_i k j e tt len z at_ y hi hti hx
    obtain ⟨j, rfl⟩ : ∃ j' : Int, j' = j := ⟨j, rfl⟩
    rw [hti] at ht
    obtain ⟨t0, t1, ⟨ie, t2, t3⟩, ⟨d, t4, t5, t6⟩, _⟩ := ht
    split
    · rename_i xs hxs
      split
      · rename_i hlen
        have hlen := Nat.eq_of_beq_eq_true hlen
        intro h0 h1
        replace h0 : (0 : Int) ≤ j := h0
        replace h1 : j < (len : Int) := h1
        obtain ⟨cs, hv, hr⟩ := VR_agg (look_t E hx)
        have hvr := vecL_VR hxs (cellsOf_AR (β := G.β) (m := st.m) hr)
        have hlt : j.toNat < xs.length := by omega
        obtain ⟨c, hc, hvc⟩ := hvr.get j.toNat (a := rdT tt xs j) (by simp [rdT, List.getD, hlt])
        have hc' : cs[j.toNat]? = some c := by simpa using hc
        refine put_ok (x := c) ?_ hvc
        simp [execOp, ho, look_int E hi, hv, Instr.index, asIntOf, run_underlying t1, h0, h1, run_sizeOf t2, t3, run_part_cell t4 t5 t6 hc' w]
      · trivial
    · trivial
  · rename_i k j s hi hti hx
    obtain ⟨j, rfl⟩ : ∃ j' : Int, j' = j := ⟨j, rfl⟩
    obtain ⟨s, rfl⟩ : ∃ s' : ByteArray, s' = s := ⟨s, rfl⟩
    rw [hti] at ht
    intro h0 h1
    replace h0 : (0 : Int) ≤ j := h0
    replace h1 : j < (s.size : Int) := h1
    have hlt : j.toNat < s.size := by omega
    refine put_ok (x := .int .u8 (byteAt s j)) ?_ (int_VR _ _ _ _)
    have hb : s[j.toNat]? = some s[j.toNat] := by simp [hlt]
    have hd : s.data.toList.getD j.toNat 0 = s[j.toNat] := by
      have : j.toNat < s.data.size := hlt
      simp only [List.getD, Array.getElem?_toList, Array.getElem?_eq_getElem this]; rfl
    simp only [byteAt, hd]
    simp [execOp, ho, look_int E hi, VR_str (look_t E hx), Instr.index, asIntOf, run_underlying ht.1, h0, hlt]
  · trivial
def FldOK (P : Program) (T : TypeId) (k : Nat) (u : TypeId) : Prop := ∃ fs f, P.underlying T = some (.struct fs) ∧ fs[k]? = some f ∧ f.type = u
theorem ok_field (E : EnvR X F w0 n G st a w) {T : TypeId} {x : Operand} {k : Nat} (ho : o.op = .field T x k) {Γ : Ctx} (ht : ∀ T, (Γ.ty T).ok P T) (hf : ∀ T k u, Γ.fld T k = some u → FldOK P T k u) : OpOK P X G st o a w (evOp Γ o st.look) := by
  unfold evOp; rw [ho]; simp only
  split
  · rename_i fs size z at_ y u hti hx hu
    have hT := ht T
    rw [hti] at hT
    obtain ⟨fs', i, z', t1, t2, t3, _, _, _, _, _, hfld⟩ := hT
    obtain ⟨fs2, f2, s1, s2, s3⟩ := hf T k u hu
    rw [t1] at s1
    obtain rfl : fs' = fs2 := by injection (Option.some.inj s1)
    split
    · rename_i p hp
      obtain ⟨f, fi, hf1, hoff, hfi, hsz, hnz, _⟩ := hfld k p hp
      rw [hf1] at s2
      obtain rfl := Option.some.inj s2
      split
      · trivial
      · rename_i v hn hc hns
        obtain ⟨⟨d, q1, q2, q3⟩, _⟩ := TI.ok_one (ht u) (Nat.eq_of_beq_eq_true hn) hns
        obtain ⟨cs, hv, hr⟩ := VR_agg (look_t E hx)
        obtain ⟨c, hc', hvc⟩ := (cellsOf_AR (β := G.β) (m := st.m) hr).get p.1 hc
        have hc2 : cs[f.offset]? = some c := by rw [hoff]; simpa using hc'
        refine put_ok (x := c) ?_ hvc
        rw [← s3] at q1
        simp [execOp, ho, hv, Instr.field, run_underlying t1, hf1, asAgg, run_part_cell q1 q2 q3 hc2 w]
      · trivial
    · trivial
  · trivial
theorem run_bound {k : IntKind} {j : Int} {y : Nat} {code : BoundsCode} (h0 : 0 ≤ j) (h1 : j ≤ (y : Int)) (w : World) : (Instr.sliceBound (.int k j) y code).run P w = .ok j.toNat w := by
  simp [Instr.sliceBound, asIntOf, h0, h1]
/-- The bounds that a piece is cut at. -/
def loOf : Option Int → Nat
  | none => 0
  | some k => k.toNat
def hiOf (len : Nat) : Option Int → Nat
  | none => len
  | some k => k.toNat
/-- What the tests of 'cut' have found. -/
def CutOK (len : Nat) (l h : Option Int) (lo hi : Option Value) : Prop := loOf l ≤ hiOf len h ∧ hiOf len h ≤ len ∧
  (match l, lo with | none, none => True | some k, some v => 0 ≤ k ∧ ∃ kk, v = .int kk k | _, _ => False) ∧
  (match h, hi with | none, none => True | some k, some v => 0 ≤ k ∧ ∃ kk, v = .int kk k | _, _ => False)
theorem ok_cut (E : EnvR X F w0 n G st a w) {len : Nat} {lo hi : Option Operand} {K : Option Int → Option Int → Res} (h : ∀ l h, CutOK len l h (lo.map a.eval) (hi.map a.eval) → OpOK P X G st o a w (K l h)) : OpOK P X G st o a w (cut st.look len lo hi K) := by
  unfold cut
  split
  · exact h none none ⟨Nat.zero_le _, Nat.le_refl _, trivial, trivial⟩
  · rename_i y
    split
    · rename_i k j hj
      obtain ⟨j, rfl⟩ : ∃ j' : Int, j' = j := ⟨j, rfl⟩
      intro h0 h1
      replace h0 : (0 : Int) ≤ j := h0
      replace h1 : j ≤ (len : Int) := h1
      refine h none (some j) ⟨Nat.zero_le _, ?_, trivial, h0, k, look_int E hj⟩
      simp only [hiOf]; omega
    · trivial
  · rename_i y
    split
    · rename_i k j hj
      obtain ⟨j, rfl⟩ : ∃ j' : Int, j' = j := ⟨j, rfl⟩
      intro h0 h1
      replace h0 : (0 : Int) ≤ j := h0
      replace h1 : j ≤ (len : Int) := h1
      refine h (some j) none ⟨?_, Nat.le_refl _, ⟨h0, k, look_int E hj⟩, trivial⟩
      simp only [hiOf, loOf]; omega
    · trivial
  · rename_i y z
    split
    · rename_i k j k' j' hj hj'
      obtain ⟨j, rfl⟩ : ∃ i : Int, i = j := ⟨j, rfl⟩
      obtain ⟨j', rfl⟩ : ∃ i : Int, i = j' := ⟨j', rfl⟩
      intro h0 h1 h2 h3
      replace h0 : (0 : Int) ≤ j' := h0
      replace h1 : j' ≤ (len : Int) := h1
      replace h2 : (0 : Int) ≤ j := h2
      replace h3 : j ≤ j' := h3
      refine h (some j) (some j') ⟨?_, ?_, ⟨h2, k, look_int E hj⟩, h0, k', look_int E hj'⟩ <;> simp only [hiOf, loOf] <;> omega
    · trivial
theorem run_bounds {isSlice : Bool} {len cap : Nat} (hlc : len ≤ cap) {l h : Option Int} {lo hi : Option Value} (hc : CutOK len l h lo hi) (w : World) :
    (Instr.sliceBounds isSlice len cap lo hi none).run P w = .ok (loOf l, hiOf len h, cap) w := by
  obtain ⟨h1, h2, h3, h4⟩ := hc
  cases l with
  | none => cases lo with
    | some v => exact h3.elim
    | none =>
      cases h with
      | none => cases hi with
        | some v => exact h4.elim
        | none => simp [Instr.sliceBounds, loOf, hiOf]
      | some k => cases hi with
        | none => exact h4.elim
        | some v =>
          obtain ⟨h0, kk, rfl⟩ := h4
          simp only [hiOf] at h2
          simp [Instr.sliceBounds, loOf, hiOf, run_bound (P := P) (k := kk) h0 (show k ≤ ((cap : Nat) : Int) by omega)]
  | some q => cases lo with
    | none => exact h3.elim
    | some v =>
      obtain ⟨h5, kk', rfl⟩ := h3
      cases h with
      | none => cases hi with
        | some v => exact h4.elim
        | none =>
          simp only [hiOf, loOf] at h1
          simp [Instr.sliceBounds, loOf, hiOf, run_bound (P := P) (k := kk') h5 (show q ≤ ((len : Nat) : Int) by omega)]
      | some k => cases hi with
        | none => exact h4.elim
        | some v =>
          obtain ⟨h0, kk, rfl⟩ := h4
          simp only [hiOf, loOf] at h1 h2
          simp [Instr.sliceBounds, loOf, hiOf, run_bound (P := P) (k := kk) h0 (show k ≤ ((cap : Nat) : Int) by omega), run_bound (P := P) (k := kk') h5 (show q ≤ ((k.toNat : Nat) : Int) by omega)]
theorem run_sliceAt {T e : TypeId} {i : TypeInfo} (ht : P.underlying T = some (.slice e)) (hi : P.info? e = some i) {ao : Option Addr} {len cap : Nat} (hlc : len ≤ cap) {l h : Option Int} {lo hi : Option Value} (hc : CutOK len l h lo hi) (w : World) :
    (Instr.sliceAt T (.slice ao len cap) lo hi none).run P w = .ok (.slice (if cap = loOf l then ao else ao.map (·.add (loOf l * i.size))) (hiOf len h - loOf l) (cap - loOf l)) w := by
  simp [Instr.sliceAt, Instr.slice, run_underlying ht, run_bounds hlc hc, run_sizeOf ‹P.info? e = some i›]
theorem run_sliceAt_str {T : TypeId} (ht : P.underlying T = some .string) {s : ByteArray} {l h : Option Int} {lo hi : Option Value} (hc : CutOK s.size l h lo hi) (w : World) :
    (Instr.sliceAt T (.string s) lo hi none).run P w = .ok (.string (s.extract (loOf l) (hiOf s.size h))) w := by
  simp [Instr.sliceAt, Instr.slice, run_underlying ht, run_bounds (Nat.le_refl _) hc]
theorem slice_R {own : Nat → Prop} {t : Ty} {l : List t.D} {ao : Option Addr} {cap : Nat} (h : R w own (.lst t) l [.slice ao (List.length l) cap]) {k q : Nat} (hk : k ≤ q) (hq : q ≤ List.length l) :
    R w own (.lst t) ((l.drop k).take (q - k)) [.slice (if cap = k then ao else ao.map (·.add (k * t.n))) (q - k) (cap - k)] := by
  simp only [R] at h ⊢
  obtain ⟨ao', cap', he, hc, hl⟩ := h
  obtain ⟨rfl, rfl⟩ : ao = ao' ∧ cap = cap' := by simpa using he
  have hlen : ((l.drop k).take (q - k)).length = q - k := by simp; omega
  refine ⟨_, _, by rw [hlen], by rw [hlen]; omega, ?_⟩
  by_cases hz : q - k = 0
  · exact .inl (List.eq_nil_of_length_eq_zero (by rw [hlen, hz]))
  rcases hl with hl | ⟨ad, css, rfl, hno, hr, hcell⟩
  · subst hl; simp at hq; omega
  · rw [if_neg (by omega)]
    refine .inr ⟨ad.add (k * t.n), (css.drop k).take (q - k), rfl, by rw [add_block]; exact hno, All2.take _ (All2.drop _ hr), fun j c hj => ?_⟩
    rw [add_add]
    exact hcell _ _ (piece_get hr k (q - k) j hj)
theorem ok_slice_run {T : TypeId} {x : Operand} {lo hi : Option Operand} (ho : o.op = .slice T x lo hi none) {v : Value} (h : (Instr.sliceAt T (a.eval x) (lo.map a.eval) (hi.map a.eval) none).run P w = .ok v w) : (execOp a.eval o).run P w = .ok (.value v) w := by
  simp [execOp, ho, h]
theorem piece_eq {α : Type} (l : List α) (k q : Nat) : (l.drop k).take (q - k) = (l.take q).drop k := by
  rw [List.drop_take]
theorem ok_slice (E : EnvR X F w0 n G st a w) {T : TypeId} {x : Operand} {lo hi mx : Option Operand} (ho : o.op = .slice T x lo hi mx) {Γ : Ctx} (ht : (Γ.ty T).ok P T) : OpOK P X G st o a w (evOp Γ o st.look) := by
  unfold evOp; rw [ho]; simp only
  split
  · rename_i e ty0 size bytes hti
    rw [hti] at ht
    obtain ⟨t1, _, i, z, t2, t3, _⟩ := ht
    split
    · rename_i b ty l hx
      cases hd : decide (ty = ty0)
      · trivial
      obtain rfl := of_decide_eq_true hd
      refine ok_cut E fun k q hc => ?_
      have hv := VR_lst (look_t E hx)
      have hv' := hv
      simp only [R] at hv'
      obtain ⟨ao, cap, he, hcap, _⟩ := hv'
      have he : a.eval x = .slice ao (List.length l) cap := by simpa using he
      have hrun := run_sliceAt (ao := ao) t1 t2 hcap hc w
      have hp := slice_R (he ▸ hv) hc.1 hc.2.1
      rw [t3] at hrun
      unfold pieceL
      split <;> refine put_ok (ok_slice_run ho (by rw [he]; exact hrun)) (VR_cell (ty := .lst ty) ?_ (by simp) (by simp)) <;> simp only [loOf, hiOf] at hp ⊢
      · simpa using hp
      · simpa using hp
      · rw [piece_eq] at hp; simpa using hp
      · rw [piece_eq] at hp; exact hp
    · rename_i d app ty l h1 h2
      cases hd : decide (ty = ty0)
      · trivial
      obtain rfl := of_decide_eq_true hd
      refine ok_cut E fun k q hc => ?_
      have L := look_LR E x
      obtain ⟨L1, L2⟩ := L
      rw [h1] at L1 L2
      simp only at L2
      have hm : st.m d = .own app ty l := by rw [← L2]; exact h2
      have hx : a.eval x = G.β d := by simp only [AR, hm] at L1; exact L1
      obtain ⟨ao, cap, hβ, hcap⟩ := MR_head (E.mems d) hm
      have hrun := run_sliceAt (ao := ao) t1 t2 hcap hc w
      rw [t3] at hrun
      have hc1 := hc.1
      have hc2 := hc.2.1
      unfold pieceV
      split
      · refine put_ok (ok_slice_run ho (by rw [hx, hβ]; exact hrun)) ?_
        simp only [loOf, hiOf] at hc1 hc2 ⊢
        simp only [AR, hm]
        refine ⟨by omega, cap, by omega, ?_⟩
        rw [hβ]
        simp [headOf, add_zero]
      · rename_i k' q'
        intro hlt
        replace hlt : k' < q' := hlt
        refine put_ok (ok_slice_run ho (by rw [hx, hβ]; exact hrun)) ?_
        simp only [loOf, hiOf] at hc1 hc2 ⊢
        obtain ⟨_, _, hk0, hq0⟩ := hc
        have hk0 : 0 ≤ k' := by
          cases hlo : lo.map a.eval with
          | none => rw [hlo] at hk0; exact hk0.elim
          | some v => rw [hlo] at hk0; exact hk0.1
        simp only [AR, hm]
        refine ⟨by omega, cap - k'.toNat, by omega, ?_⟩
        have hne : ¬ cap = k'.toNat := by omega
        rw [hβ]
        simp only [hne, if_false]
        rfl
      · trivial
    · trivial
  · rename_i hti
    rw [hti] at ht
    split
    · rename_i s hx
      obtain ⟨s, rfl⟩ : ∃ s' : ByteArray, s' = s := ⟨s, rfl⟩
      refine ok_cut E fun k q hc => ?_
      have hv := VR_str (look_t E hx)
      have hrun := run_sliceAt_str ht.1 hc w
      unfold pieceS
      split <;> refine put_ok (ok_slice_run ho (by rw [hv]; exact hrun)) ?_ <;> simp only [loOf, hiOf]
      · rw [ByteArray.extract_zero_size]; exact str_VR _ _ _
      · exact str_VR _ _ _
      · exact str_VR _ _ _
      · exact str_VR _ _ _
    · trivial
  · trivial
end Go.Proofs.YtlnbcpcnpofnoaaGreatDoor.E

/- Each operation does what the evaluator says, 7: append. -/
namespace Go.Proofs.YtlnbcpcnpofnoaaGreatDoor.E
open Go Go.RowKit
set_option linter.unusedVariables false
set_option linter.unusedSimpArgs false

variable {P : Program} {X : Nat → Prop} {F : Root} {w0 : World} {n : Nat} {G : Gh} {st : St} {a : Act} {w : World} {o : Oper}

theorem run_append_fits {t ty e e' : TypeId} {i : TypeInfo} (ht : P.underlying t = some (.slice e)) (hi : P.info? e = some i)
    {g sLen sCap : Nat} {cur : Array Value} (hg : w.heap[g]? = some (.cells cur e' (0, 0)))
    {ad : Addr} {m c : Nat} {news : List Value} (hl : news.length = m * i.size) (hnews : ∀ j u, news[j]? = some u → w.cell? (ad.add j) = some u) (h1 : ∀ u ∈ news, u.oneCell' = true)
    (hroom : sLen + m ≤ sCap) (hfit : sLen * i.size + news.length ≤ cur.size) :
    (Builtin.append_ #[t, t] ty #[.slice (some ⟨g, 0, none⟩) sLen sCap, .slice (some ad) m c]).run P w =
      .ok (.slice (some ⟨g, 0, none⟩) (sLen + m) sCap) (w.setRow g (cur.toList.take (sLen * i.size) ++ news ++ cur.toList.drop (sLen * i.size + news.length)).toArray) := by
  have hf := run_firstCells_some (P := P) w i.size m ad m c news hl hnews
  have hst := run_storeCells_at P g (sLen * i.size) e' news 0 cur w hg (by simpa using hfit) h1
  simp only [Nat.add_zero] at hst
  simp [Builtin.append_, run_underlying ht, sizeOf, typeInfo, hi, Builtin.lenOf, hroom, hf, Addr.add_lit, hst]
theorem run_append_none {t ty e : TypeId} {i : TypeInfo} (ht : P.underlying t = some (.slice e)) (hi : P.info? e = some i) {base ao : Option Addr} {k cap c : Nat} (hk : k ≤ cap) :
    (Builtin.append_ #[t, t] ty #[.slice base k cap, .slice ao 0 c]).run P w = .ok (.slice base k cap) w := by
  have hf : (Builtin.firstCells i.size 0 (.slice ao 0 c)).run P w = .ok #[] w := by
    cases ao <;> simp [Builtin.firstCells, loadCells, loadCellsFrom]
  cases base <;> simp [Builtin.append_, run_underlying ht, sizeOf, typeInfo, hi, Builtin.lenOf, hk, hf, storeCells]
theorem ok_append_run {x y : Operand} {t : TypeId} (ho : o.op = .call { callee := .builtin .append, args := #[x, y], argTypes := #[t, t] }) {v : Value} {w' : World}
    (h : (Builtin.append_ #[t, t] o.type #[a.eval x, a.eval y]).run P w = .ok v w') : (execOp a.eval o).run P w = .ok (.value v) w' := by
  simp [execOp, ho, resolve, invoke, builtin, h]
/-- What an append hands over, by cases: nothing is added; a new block; the old one, filled up. -/
inductive Appended (w w' : World) (size : Nat) (base : Value) (olds news : List Value) (v : Value) (k m : Nat) : Prop where
  | same (h : w' = w) (hv : v = base) (hn : news = []) (hm : m = 0)
  | new (e : TypeId) (cap : Nat) (post : List Value) (hg : Grows w w') (hv : v = .slice (some ⟨w.heap.size, 0, none⟩) (k + m) cap) (hh : w'.heap[w.heap.size]? = some (.cells (olds ++ news ++ post).toArray e (0, 0)))
      (hc : k + m ≤ cap) (hs : (olds ++ news).length + post.length = cap * size) (hcm : cap ≤ maxLen)
  | room (g : Nat) (e : TypeId) (cap c : Nat) (post : List Value) (hm : 0 < m) (hb : base = .slice (some ⟨g, 0, none⟩) k cap) (hbut : But g w w') (hv : v = .slice (some ⟨g, 0, none⟩) (k + m) cap)
      (hh : w'.heap[g]? = some (.cells (olds ++ news ++ post).toArray e (0, 0))) (hc : k + m ≤ cap) (hs : (olds ++ news).length + post.length = cap * size) (hcm : cap ≤ maxLen)
theorem grown_new {t ty e : TypeId} {i : TypeInfo} {z : Value} (hz : z.cells.size = i.size) (olds news : List Value) (k m old : Nat) (hlo : olds.length = k * i.size) (hl : news.length = m * i.size) (hlt : k + m ≤ maxLen) :
    let cap := grownCap w (k + m) old e
    let w' := w.drew.alloc (.cells (olds.toArray ++ news.toArray ++ Builtin.zeroCells z.cells (cap - (k + m))) e)
    Grows w w' ∧ w'.heap[w.heap.size]? = some (.cells (olds ++ news ++ (Builtin.zeroCells z.cells (cap - (k + m))).toList).toArray e (0, 0)) ∧ k + m ≤ cap ∧
      (olds ++ news).length + (Builtin.zeroCells z.cells (cap - (k + m))).toList.length = cap * i.size ∧ cap ≤ maxLen := by
  intro cap w'
  have h1 : k + m ≤ cap := grownCap_ge w (k + m) old e
  refine ⟨(Grows.drew w).trans (Grows.alloc _ _), ?_, h1, ?_, grownCap_le_maxLen w (k + m) old e hlt⟩
  · have := heap_alloc_new w.drew (.cells (olds.toArray ++ news.toArray ++ Builtin.zeroCells z.cells (cap - (k + m))) e)
    refine this.trans ?_
    congr 2
    apply Array.ext'
    simp [List.append_assoc]
  · simp only [List.length_append, hlo, hl, Array.length_toList, size_zeroCells, hz, ← Nat.add_mul]
    congr 1
    omega
theorem append_cases {t ty e : TypeId} {i : TypeInfo} {z : Value} (ht : P.underlying t = some (.slice e)) (hi : P.info? e = some i) (hz : i.zero = some z) (hzs : z.cells.size = i.size) (hby : i.bytes ≤ 64)
    {base : Value} {olds : List Value} {k cap : Nat} {ao : Option Addr} (hb : base = .slice ao k cap) (hk : k ≤ cap) (hlo : olds.length = k * i.size)
    (holds : olds = [] ∨ ∃ ad, ao = some ad ∧ ∀ (j : Nat) (v : Value), olds[j]? = some v → w.cell? (ad.add j) = some v)
    (hown : cap = k ∨ ∃ g e' post, ao = some ⟨g, 0, none⟩ ∧ w.heap[g]? = some (.cells (olds ++ post).toArray e' (0, 0)) ∧ olds.length + post.length = cap * i.size ∧ cap ≤ maxLen)
    (hnil : ao = none → cap = 0)
    {y : Value} {news : List Value} {m c : Nat} {ay : Option Addr} (hy : y = .slice ay m c) (hl : news.length = m * i.size)
    (hnews : news = [] ∧ m = 0 ∨ ∃ ad, ay = some ad ∧ ∀ (j : Nat) (v : Value), news[j]? = some v → w.cell? (ad.add j) = some v) (h1 : ∀ u ∈ news, u.oneCell' = true) (hpos : 0 < i.size)
    (hlen : k + m ≤ 1099511627776) :
    ∃ v w', (Builtin.append_ #[t, t] ty #[base, y]).run P w = .ok v w' ∧ Appended w w' i.size base olds news v k m := by
  subst hb; subst hy
  have hml : k + m ≤ maxLen := by unfold maxLen; omega
  have hbytes : (k + m) * i.bytes ≤ 140737488355328 := by
    calc (k + m) * i.bytes ≤ 1099511627776 * 64 := Nat.mul_le_mul hlen hby
      _ ≤ _ := by omega
  by_cases hm : m = 0
  · subst hm
    have hn : news = [] := List.eq_nil_of_length_eq_zero (by simpa using hl)
    exact ⟨_, w, run_append_none ht hi hk, .same rfl rfl hn rfl⟩
  obtain ⟨ad, rfl, hnews2⟩ := hnews.resolve_left (fun h => hm h.2)
  cases ao with
  | none =>
    have hc0 := hnil rfl
    subst hc0
    have hk0 : k = 0 := by omega
    subst hk0
    have ho : olds = [] := List.eq_nil_of_length_eq_zero (by simpa using hlo)
    subst ho
    have hr := run_append_nil (P := P) w t ty e i z ht hi hz ad m c news hl hnews2 (by omega) (by omega) (by simp only [Nat.zero_add] at hbytes; omega)
    obtain ⟨g1, g2, g3, g4, g5⟩ := grown_new (w := w) (t := t) (ty := ty) (e := e) hzs [] news 0 m 0 (by simp) hl hml
    simp only [Nat.zero_add, List.nil_append, Array.empty_append] at hr g1 g2 g3 g4 g5
    refine ⟨_, _, hr, .new e _ _ (by simpa using g1) (by simp) (by simpa using g2) (by simpa using g3) (by simpa using g4) g5⟩
  | some b =>
    by_cases hroom : k + m ≤ cap
    · rcases hown with hck | ⟨g, e', post, hb, hh, hs, hcm⟩
      · omega
      · obtain rfl : b = ⟨g, 0, none⟩ := by simpa using hb
        have hfit : k * i.size + news.length ≤ (olds ++ post).toArray.size := by
          simp only [List.size_toArray, List.length_append, hs, hl, ← Nat.add_mul]
          exact Nat.mul_le_mul_right _ hroom
        have hr := run_append_fits (P := P) (ty := ty) ht hi hh hl hnews2 h1 hroom hfit (c := c)
        refine ⟨_, _, hr, .room g e' cap c (post.drop news.length) (by omega) rfl ⟨by simp, rfl, rfl, rfl, fun k _ hk => setRow_other w g k _ hk⟩ rfl ?_ hroom ?_ hcm⟩
        · rw [setRow_heap w g _ _ e' _ hh]
          congr 2
          apply congrArg
          simp only [List.toList_toArray]
          rw [← hlo, List.take_left, List.drop_append, List.drop_eq_nil_of_le (as := olds) (by omega), show olds.length + news.length - olds.length = news.length by omega]
          simp
        · simp only [List.length_append, List.length_drop]
          have : news.length ≤ post.length := by
            simp only [List.size_toArray, List.length_append] at hfit; omega
          omega
    · have holds' : ∀ (j : Nat) (v : Value), olds[j]? = some v → w.cell? (b.add j) = some v := by
        rcases holds with h | ⟨ad', h, h'⟩
        · subst h; simp
        · obtain rfl : b = ad' := by simpa using h
          exact h'
      have hr := run_append_grow (P := P) w t ty e i z ht hi hz b k cap olds hlo holds' ad m c news hl hnews2 (by omega) (by omega) (growslice_fits (by omega) hbytes)
      obtain ⟨g1, g2, g3, g4, g5⟩ := grown_new (w := w) (t := t) (ty := ty) (e := e) hzs olds news k m cap hlo hl hml
      exact ⟨_, _, hr, .new e _ _ g1 rfl g2 g3 g4 g5⟩

theorem memN_false {n : Nat} : ∀ {l : List Nat}, memN n l = false → n ∉ l
  | [], _, h => by cases h
  | m :: r, h, h' => by
    simp only [memN, Bool.or_eq_false_iff] at h
    rcases List.mem_cons.1 h' with rfl | h'
    · rw [Nat.beq_refl] at h; exact absurd h.1 (by decide)
    · exact memN_false h.2 h'
theorem ok_evAppend (E : EnvR X F w0 n G st a w) {x y : Operand} {t e : TypeId} (ho : o.op = .call { callee := .builtin .append, args := #[x, y], argTypes := #[t, t] }) {ty : Ty} {i : TypeInfo} {z : Value}
    (ht : P.underlying t = some (.slice e)) (hi : P.info? e = some i) (hsz : i.size = ty.n) (hby : i.bytes ≤ 64) (hz : i.zero = some z) (hzR : ∀ w own, R w own ty ty.dflt z.cells.toList)
    {add : List ty.D} (hadd : asOne (st.look y).1 (st.look y).2 (.lst ty) = some add) : OpOK P X G st o a w (evAppend ty add (st.look x) (rowsOf [(st.look y).1])) := by
  have hzs : z.cells.size = i.size := by have := R_len (hzR w (Own X G.β st.m)); rw [hsz]; simpa using this
  have hpos : 0 < i.size := by rw [hsz]; exact Ty.n_pos ty
  -- the source
  obtain ⟨E1, hsub, hfree⟩ := E.kill (rowsOf [(st.look y).1])
  have hsub' : ∀ g, Own X G.β (st.kill (rowsOf [(st.look y).1])).m g → Own X G.β st.m g := fun g h => Own_kill hsub h
  have hy := VR_lst (asOne_VR E.mems (look_LR E y) hadd hsub' hfree)
  simp only [R] at hy
  obtain ⟨ay, c, hyv, hcl, hyR⟩ := hy
  have hyv : a.eval y = .slice ay (List.length add) c := by simpa using hyv
  have hnews : ∃ css : List (List Value), All2 (R w (Own X G.β (st.kill (rowsOf [(st.look y).1])).m) ty) add css ∧ (css.flatten = [] ∧ add.length = 0 ∨ ∃ ad, ay = some ad ∧ ∀ (j : Nat) (v : Value), css.flatten[j]? = some v → w.cell? (ad.add j) = some v) := by
    rcases hyR with h | ⟨ad, css, h, _, hr, hcell⟩
    · subst h; exact ⟨[], trivial, .inl ⟨rfl, rfl⟩⟩
    · exact ⟨css, hr, .inr ⟨ad, h, hcell⟩⟩
  obtain ⟨css, hcr, hnews⟩ := hnews
  have hcl' : css.flatten.length = add.length * i.size := by rw [hsz]; exact flat_len hcr
  have hone : ∀ u ∈ css.flatten, u.oneCell' = true := by
    intro u hu
    obtain ⟨c', hc', hu⟩ := List.mem_flatten.1 hu
    have : ∀ {l : List ty.D} {css : List (List Value)}, All2 (R w (Own X G.β (st.kill (rowsOf [(st.look y).1])).m) ty) l css → ∀ c ∈ css, ∀ u ∈ c, u.oneCell' = true := by
      intro l
      induction l with
      | nil => intro css h c hc; cases css <;> first | exact h.elim | cases hc
      | cons q l ih =>
        intro css h c hc
        cases css with
        | nil => cases hc
        | cons d css =>
          rcases List.mem_cons.1 hc with rfl | hc
          · exact R_one h.1
          · exact ih h.2 c hc
    exact this hcr c' hc' u hu
  unfold evAppend
  split
  · rename_i u b hx
    intro hlen
    have hxv := VR_nil (look_t E hx)
    obtain ⟨v, w', hrun, hA⟩ := append_cases (P := P) (w := w) (ty := o.type) ht hi hz hzs hby (base := a.eval x) (olds := []) (k := 0) (cap := 0) (ao := none) hxv (Nat.le_refl _) (by simp) (.inl rfl) (.inl rfl) (fun _ => rfl)
      hyv hcl' hnews hone hpos (by omega)
    refine ⟨v, w', ok_append_run ho hrun, ?_⟩
    rcases hA with ⟨rfl, hv, hn, hm⟩ | ⟨e', cap, post, hg, hv, hh, hc, hs, hcm⟩ | ⟨g, e', cap, c', post, hm, hb, _⟩
    · have : add = [] := List.eq_nil_of_length_eq_zero hm
      exact ⟨Nat.le_refl _, rfl, rfl, rfl, fun _ _ _ => rfl, (fun _ h => by cases h), .inl ⟨by rw [hv, hxv], this⟩⟩
    · refine ⟨hg.size, hg.os, hg.tape, hg.output, fun k hk _ => hg.heap k hk, (fun _ h => by cases h), .inr ⟨_, e', cap, css, post, by rw [hv]; simp, .inl (Nat.le_refl _), by simpa using hh, hcr, by simpa using hc, by rw [← hsz]; simpa using hs, hcm⟩⟩
    · rw [hxv] at hb; cases hb
  · rename_i a1 l hx hx2
    split
    · rename_i hrows
      split
      · rename_i he
        subst he
        intro hlen
        replace hlen : List.length l + List.length add ≤ 1099511627776 := hlen
        have L := look_LR E x
        obtain ⟨L1, L2⟩ := L
        rw [hx] at L1 L2
        simp only at L2
        have hcap : ∃ ao, a.eval x = .slice ao (List.length l) (List.length l) := by
          rcases L2 with h | ⟨_, h⟩
          · rw [hx2] at h; cases h
          · exact h
        obtain ⟨ao, hxv⟩ := hcap
        have hl := VR_lst L1
        simp only [R] at hl
        obtain ⟨ao', cap', he, _, hl⟩ := hl
        obtain ⟨rfl, rfl⟩ : ao = ao' ∧ List.length l = cap' := by rw [hxv] at he; simpa using he
        have hbase : ∃ os : List (List Value), All2 (R w (Own X G.β st.m) a1) l os ∧ (os.flatten = [] ∨ ∃ ad, ao = some ad ∧ ¬ Own X G.β st.m ad.block ∧ ∀ (j : Nat) (v : Value), os.flatten[j]? = some v → w.cell? (ad.add j) = some v) := by
          rcases hl with h | ⟨ad, os, h, hno, hr, hcell⟩
          · subst h; exact ⟨[], trivial, .inl rfl⟩
          · exact ⟨os, hr, .inr ⟨ad, h, hno, hcell⟩⟩
        obtain ⟨os, hor, hos⟩ := hbase
        obtain ⟨v, w', hrun, hA⟩ := append_cases (P := P) (w := w) (ty := o.type) ht hi hz hzs hby (base := a.eval x) (olds := os.flatten) (k := List.length l) (cap := List.length l) (ao := ao) hxv (Nat.le_refl _)
          (by rw [hsz]; exact flat_len hor) (hos.imp id fun ⟨ad, h, _, h'⟩ => ⟨ad, h, h'⟩) (.inl rfl)
          (fun h => by
            rcases hos with h' | ⟨ad, h', _⟩
            · have h0 := flat_len hor; rw [h'] at h0
              have h0 : List.length l * a1.n = 0 := h0.symm
              rcases Nat.mul_eq_zero.1 h0 with h | h
              · exact h
              · have := Ty.n_pos a1; omega
            · rw [h] at h'; cases h')
          hyv hcl' hnews hone hpos hlen
        rw [hrows] at hcr
        have hkill : (st.kill []).m = st.m := rfl
        rw [hkill] at hcr
        refine ⟨v, w', ok_append_run ho hrun, ?_⟩
        rcases hA with ⟨rfl, hv, hn, hm⟩ | ⟨e', cap, post, hg, hv, hh, hc, hs, hcm⟩ | ⟨g, e', cap, c', post, hm, hb, hbut, hv, hh, hc, hs, hcm⟩
        · have : add = [] := List.eq_nil_of_length_eq_zero hm
          subst this
          refine ⟨Grows.refl _, ?_⟩
          rw [hv]
          have h3 : VR w' (Own X G.β st.m) (.lst a1) l (a.eval x) := L1
          show VR w' (Own X G.β st.m) (.lst a1) (l ++ []) (a.eval x)
          rw [List.append_nil]; exact h3
        · refine ⟨hg, ?_⟩
          have A := (E.grows hg).2
          show VR _ _ (.lst a1) (l ++ add) v
          refine VR_cell (ty := .lst a1) ?_ (by simp) (by simp)
          simp only [R]
          refine ⟨some ⟨w.heap.size, 0, none⟩, cap, by rw [hv]; simp, by simpa using hc, .inr ⟨⟨w.heap.size, 0, none⟩, os ++ css, rfl, ?_, (All2.append hor hcr).mono fun _ _ => R_mono A, fun j c hj => ?_⟩⟩
          · intro hown
            have hown : Own X G.β st.m w.heap.size := hown
            rcases hown with h | ⟨d, h⟩
            · have := E.xlt _ h; have := E.grown; omega
            · have := blk_lt (E.mems d) h; omega
          · have hh : w'.heap[w.heap.size]? = some (.cells ([] ++ (os ++ css).flatten ++ post).toArray e' (0, 0)) := by rw [hh]; simp
            exact own_cells hh j hj
        · exfalso
          rw [hxv] at hb
          have hck : cap = List.length l := by simp at hb; exact hb.2.symm
          omega
      · trivial
    · trivial
  · rename_i d a1 l hx hx2
    split
    · rename_i hmem
      split
      · rename_i he
        subst he
        intro hlen
        replace hlen : List.length l + List.length add ≤ 1099511627776 := hlen
        have L := look_LR E x
        obtain ⟨L1, L2⟩ := L
        rw [hx] at L1 L2
        simp only at L2
        have hmd : st.m d = .own true a1 l := by rw [← L2]; exact hx2
        have hxv : a.eval x = G.β d := by simp only [AR, hmd] at L1; exact L1
        have hM := E.mems d
        unfold MR at hM; rw [hmd] at hM; simp only at hM
        have hbase : ∀ d', some d = some d' → d' ∉ rowsOf [(st.look y).1] ∧ ∃ ty l, st.m d' = .own true ty l := by
          intro d' e
          cases e
          exact ⟨memN_false hmem, a1, l, hmd⟩
        have Ak : Agree w w (Own X G.β st.m) (Own X G.β (st.kill (rowsOf [(st.look y).1])).m) := ⟨fun _ _ _ => rfl, fun g _ h => hsub' g h⟩
        rcases hM with ⟨hβ, hl, _⟩ | ⟨g, e0, cap, os, post0, hβ, hh0, hor, hc0, happ⟩
        · subst hl
          obtain ⟨v, w', hrun, hA⟩ := append_cases (P := P) (w := w) (ty := o.type) ht hi hz hzs hby (base := a.eval x) (olds := []) (k := 0) (cap := 0) (ao := none) (hxv.trans hβ) (Nat.le_refl _) (by simp) (.inl rfl) (.inl rfl) (fun _ => rfl)
            hyv hcl' hnews hone hpos (by simpa using hlen)
          refine ⟨v, w', ok_append_run ho hrun, ?_⟩
          rcases hA with ⟨rfl, hv, hn, hm⟩ | ⟨e', cap, post, hg, hv, hh, hc, hs, hcm⟩ | ⟨g, e', cap, c', post, hm, hb, _⟩
          · have : add = [] := List.eq_nil_of_length_eq_zero hm
            exact ⟨Nat.le_refl _, rfl, rfl, rfl, fun _ _ _ => rfl, hbase, .inl ⟨by rw [hv, hxv, hβ], by rw [this]; rfl⟩⟩
          · refine ⟨hg.size, hg.os, hg.tape, hg.output, fun k hk _ => hg.heap k hk, hbase, .inr ⟨_, e', cap, css, post, by rw [hv]; simp [castD], .inl (Nat.le_refl _), by simpa using hh, hcr, by simpa [castD] using hc, by rw [← hsz]; simpa using hs, hcm⟩⟩
          · rw [hxv, hβ] at hb; cases hb
        · rw [if_pos trivial] at happ
          obtain ⟨hπ, hs0, hcm0⟩ := happ
          rw [hπ] at hβ hh0
          have hβ : G.β d = .slice (some ⟨g, 0, none⟩) (List.length l) cap := hβ
          have hh0 : w.heap[g]? = some (.cells (os.flatten ++ post0).toArray e0 (0, 0)) := by simpa using hh0
          have hbd : blk G.β st.m d = some g := by unfold blk; rw [hmd, hβ]; rfl
          have hor' := hor.mono fun x cs hx => R_mono Ak hx
          obtain ⟨v, w', hrun, hA⟩ := append_cases (P := P) (w := w) (ty := o.type) ht hi hz hzs hby (base := a.eval x) (olds := os.flatten) (k := List.length l) (cap := cap) (ao := some ⟨g, 0, none⟩) (hxv.trans hβ) hc0
            (by rw [hsz]; exact flat_len hor) (.inr ⟨_, rfl, fun j c hj => own_cells (pre := []) (mid := os.flatten) (post := post0) (by simpa using hh0) j hj⟩)
            (.inr ⟨g, e0, post0, rfl, hh0, by rw [hsz]; exact hs0, hcm0⟩) (fun h => by cases h)
            hyv hcl' hnews hone hpos hlen
          refine ⟨v, w', ok_append_run ho hrun, ?_⟩
          rcases hA with ⟨rfl, hv, hn, hm⟩ | ⟨e', cap', post, hg, hv, hh, hc, hs, hcm⟩ | ⟨g', e', cap', c', post, hm, hb, hbut, hv, hh, hc, hs, hcm⟩
          · have : add = [] := List.eq_nil_of_length_eq_zero hm
            subst this
            exact ⟨Nat.le_refl _, rfl, rfl, rfl, fun _ _ _ => rfl, hbase, .inr ⟨g, e0, cap, os, post0, by rw [hv, hxv, hβ]; simp [castD], .inr ⟨d, rfl, hbd⟩, hh0, by simpa [castD] using hor', by simpa [castD] using hc0, hs0, hcm0⟩⟩
          · exact ⟨hg.size, hg.os, hg.tape, hg.output, fun k hk _ => hg.heap k hk, hbase, .inr ⟨_, e', cap', os ++ css, post, by rw [hv]; simp [castD], .inl (Nat.le_refl _), by simpa using hh, All2.append hor' hcr, by simpa [castD] using hc, by rw [← hsz]; simpa [Nat.add_assoc] using hs, hcm⟩⟩
          · obtain ⟨rfl, rfl⟩ : g = g' ∧ cap = cap' := by rw [hxv, hβ] at hb; simp at hb; exact hb
            exact ⟨hbut.size, hbut.os, hbut.tape, hbut.output, fun k hk hk2 => hbut.heap k hk fun e => hk2 d rfl (by rw [hbd, e]), hbase, .inr ⟨g, e', cap, os ++ css, post, by rw [hv]; simp [castD], .inr ⟨d, rfl, hbd⟩, by simpa using hh, All2.append hor' hcr, by simpa [castD] using hc, by rw [← hsz]; simpa [Nat.add_assoc] using hs, hcm⟩⟩
      · trivial
    · trivial
  · trivial
end Go.Proofs.YtlnbcpcnpofnoaaGreatDoor.E

/- Each operation does what the evaluator says, 8: len, max, min, conversions. -/
namespace Go.Proofs.YtlnbcpcnpofnoaaGreatDoor.E
open Go Go.RowKit
set_option linter.unusedVariables false
set_option linter.unusedSimpArgs false

variable {P : Program} {X : Nat → Prop} {F : Root} {w0 : World} {n : Nat} {G : Gh} {st : St} {a : Act} {w : World} {o : Oper}

/-! ### len, max, min -/
theorem run_len_row {t e : TypeId} (ht : P.underlying t = some (.slice e)) (ty : TypeId) (b : Option Addr) (k c : Nat) (w : World) : (Builtin.len_ #[t] ty #[.slice b k c]).run P w = .ok (.int .i64 k) w := by
  simp [Builtin.len_, run_underlying ht, goInt]
theorem run_len_str {t : TypeId} (ht : P.underlying t = some .string) (ty : TypeId) (s : ByteArray) (w : World) : (Builtin.len_ #[t] ty #[.string s]).run P w = .ok (.int .i64 s.size) w := by
  simp [Builtin.len_, run_underlying ht, goInt]
theorem ok_builtin {b : Builtin} {c : Call} (ho : o.op = .call c) (hc : c.callee = .builtin b) {s : Sem Value} (hb : ∀ cs, builtin b c.argTypes o.type cs (c.args.map a.eval) = (do pure (.value (← s)))) {v : Value} {w' : World}
    (h : s.run P w = .ok v w') : (execOp a.eval o).run P w = .ok (.value v) w' := by
  simp [execOp, ho, resolve, hc, invoke, hb, h]
theorem args_list {c : Call} {l : List Operand} (h : c.args.toList = l) : c.args.map a.eval = (l.map a.eval).toArray := by
  subst h; apply Array.ext'; simp
theorem types_list {c : Call} {l : List TypeId} (h : c.argTypes.toList = l) : c.argTypes = l.toArray := by
  subst h; apply Array.ext'; simp
theorem ok_len (E : EnvR X F w0 n G st a w) {c : Call} (ho : o.op = .call c) (hc : c.callee = .builtin .len) {x : Operand} (hx : c.args.toList = [x]) {t : TypeId} (ht : c.argTypes.toList = [t]) {v : Value}
    (h : (Builtin.len_ #[t] o.type #[a.eval x]).run P w = .ok v w) {r : AV} (hr : AR w (Own X G.β st.m) G.β st.m r v) : OpOK P X G st o a w (.put r) := by
  refine put_ok (ok_builtin ho hc (s := Builtin.len_ #[t] o.type #[a.eval x]) (fun cs => ?_) h) hr
  rw [args_list hx, types_list ht]; rfl
theorem foldI_max {k : IntKind} (w : World) : ∀ {l : List Operand} {st : Look} {x y : Int} (hl : ∀ z ∈ l, ∀ j i, (st z).1 = .t (.int j) i → a.eval z = .int j i), foldI mxI k x (l.map fun z => (st z).1) = some y →
    (List.foldlM Builtin.max2 (.int k x) (l.map a.eval)).run P w = .ok (.int k y) w
  | [], st, x, y, _, h => by simp [foldI] at h; subst h; simp
  | z :: l, st, x, y, hl, h => by
    simp only [List.map_cons] at h
    unfold foldI at h
    split at h
    · rename_i heq; cases heq
    · rename_i x' j i r heq
      cases hd : decide (j = k) <;> rw [hd] at h
      · cases h
      · obtain rfl := of_decide_eq_true hd
        simp only [List.cons.injEq] at heq
        obtain ⟨h1, h2⟩ := heq
        rw [← h2] at h
        have hz := hl z (by simp) _ _ h1
        have := foldI_max w (st := st) (fun z' hz' => hl z' (by simp [hz'])) h
        simp only [List.map_cons, hz]
        simpa [Builtin.max2, mxI] using this
    · cases h
theorem foldI_min {k : IntKind} (w : World) : ∀ {l : List Operand} {st : Look} {x y : Int} (hl : ∀ z ∈ l, ∀ j i, (st z).1 = .t (.int j) i → a.eval z = .int j i), foldI mnI k x (l.map fun z => (st z).1) = some y →
    (List.foldlM Builtin.min2 (.int k x) (l.map a.eval)).run P w = .ok (.int k y) w
  | [], st, x, y, _, h => by simp [foldI] at h; subst h; simp
  | z :: l, st, x, y, hl, h => by
    simp only [List.map_cons] at h
    unfold foldI at h
    split at h
    · rename_i heq; cases heq
    · rename_i x' j i r heq
      cases hd : decide (j = k) <;> rw [hd] at h
      · cases h
      · obtain rfl := of_decide_eq_true hd
        simp only [List.cons.injEq] at heq
        obtain ⟨h1, h2⟩ := heq
        rw [← h2] at h
        have hz := hl z (by simp) _ _ h1
        have := foldI_min w (st := st) (fun z' hz' => hl z' (by simp [hz'])) h
        simp only [List.map_cons, hz]
        simpa [Builtin.min2, mnI] using this
    · cases h

/-! ### Conversions -/
theorem u8_cells {own : Nat → Prop} : ∀ {l : List Int} {css : List (List Value)}, All2 (R w own (.int .u8)) l css → css.flatten = l.map (Value.int .u8)
  | [], [], _ => rfl
  | x :: l, c :: css, ⟨h, r⟩ => by
    simp only [R] at h
    simp [h, u8_cells r]
theorem run_bytes_str {S T e : TypeId} (hs : P.underlying S = some (.slice e)) (hd : P.underlying T = some .string) (he : P.underlying e = some (.int .u8)) {own : Nat → Prop} {l : List Int} {v : Value} (h : R w own (.lst (.int .u8)) l [v]) :
    (convert S T v).run P w = .ok (.string (strOf l)) w := by
  simp only [R] at h
  obtain ⟨ao, cap, hv, hc, hl⟩ := h
  have hv : v = .slice ao (List.length l) cap := by simpa using hv
  subst hv
  rcases hl with rfl | ⟨ad, css, rfl, _, hr, hcell⟩
  · cases ao with
    | none => rw [run_convert_bytes_nil w S e hs he _ _ T hd]; rfl
    | some ad =>
      have hl := run_loadCells_list (P := P) w ad (([] : List Int).map (Value.int .u8)) (fun j v hj => by simp at hj)
      rw [run_convert_bytes_string w S T e _ _ cap hs he hd, run_bytesToString w ad _ cap [] (by simpa using hl)]
      rfl
  · have hl := run_loadCells_list (P := P) w ad (l.map (Value.int .u8)) (fun j v hj => hcell j v (by rw [u8_cells (w := w) (own := own) (by simpa only [R] using hr)]; exact hj))
    rw [run_convert_bytes_string w S T e _ _ cap hs he hd, run_bytesToString w ad _ cap l (by simpa using hl), foldl_push_bytes]
    congr 2
    simp [strOf]
theorem ok_convert_run {S T : TypeId} {x : Operand} (ho : o.op = .convert S T x) {v : Value} {w' : World} (h : (convert S T (a.eval x)).run P w = .ok v w') : (execOp a.eval o).run P w = .ok (.value v) w' := by
  simp [execOp, ho, h]
theorem bytesOf_len (s : ByteArray) : List.length (bytesOf s) = s.size := by
  unfold bytesOf
  rw [List.length_map]; rfl
theorem ok_convert (E : EnvR X F w0 n G st a w) {S T : TypeId} {x : Operand} (ho : o.op = .convert S T x) {Γ : Ctx} (ht : ∀ T, (Γ.ty T).ok P T) : OpOK P X G st o a w (evOp Γ o st.look) := by
  unfold evOp; rw [ho]; simp only
  have hS := ht S
  have hT := ht T
  split
  · rename_i mb0 j k k' i h1 h2 h3
    obtain ⟨i, rfl⟩ : ∃ i' : Int, i' = i := ⟨i, rfl⟩
    rw [h1] at hS; rw [h2] at hT
    have hx := look_int E h3
    refine put_ok (x := .int k (k.wrap i)) (ok_convert_run ho ?_) (int_VR _ _ _ _)
    rw [hx]
    simp [convert, run_underlying hS.1, run_underlying hT.1, Conv.intToInt]
  · rename_i mb0 s h1 h2 h3
    obtain ⟨s, rfl⟩ : ∃ s' : ByteArray, s' = s := ⟨s, rfl⟩
    rw [h1] at hS; rw [h2] at hT
    have hx := VR_str (look_t E h3)
    refine put_ok (x := .string s) (ok_convert_run ho ?_) (str_VR _ _ _)
    rw [hx]
    simp [convert, run_underlying hS.1, run_underlying hT.1]
  · rename_i v m e ty size bytes h1 h2
    rw [h1] at hS; rw [h2] at hT
    split
    · rename_i l he hl
      have hE := ht e
      rw [he] at hE
      obtain ⟨E1, hsub, hfree⟩ := E.kill (rowsOf [(st.look x).1])
      have hv := VR_lst (asOne_VR E.mems (look_LR E x) hl (fun g h => Own_kill hsub h) hfree)
      exact put_ok (x := .string (strOf l)) (ok_convert_run ho (run_bytes_str hS.1 hT.1 hE.1 hv)) (str_VR _ _ _)
    · trivial
  · rename_i mb0 e ty size bytes s h1 h2 h3
    obtain ⟨s, rfl⟩ : ∃ s' : ByteArray, s' = s := ⟨s, rfl⟩
    rw [h1] at hS; rw [h2] at hT
    split
    · rename_i he
      have hE := ht e
      rw [he] at hE
      have hx := VR_str (look_t E h3)
      refine ⟨_, _, ok_convert_run ho (by rw [hx]; exact run_bytes_of_string w S T e s hS.1 hT.1 hE.1), (Grows.drew w).trans (Grows.alloc _ _), ?_⟩
      show VR _ _ (.lst (.int .u8)) _ _
      refine VR_cell (ty := .lst (.int .u8)) ?_ (by simp) (by simp)
      simp only [R]
      refine ⟨some ⟨w.heap.size, 0, none⟩, grownCap w s.size 0 e, by rw [bytesOf_len], by rw [bytesOf_len]; exact grownCap_ge w s.size 0 e, .inr ⟨⟨w.heap.size, 0, none⟩, (bytesOf s).map fun b => [Value.int .u8 b], rfl, ?_, ?_, fun j c hj => ?_⟩⟩
      · rintro (h | ⟨d, h⟩)
        · exact absurd (Nat.lt_of_lt_of_le (E.xlt _ h) E.grown) (Nat.lt_irrefl _)
        · exact absurd (blk_lt (E.mems d) h) (Nat.lt_irrefl _)
      · have : ∀ l : List Int, All2 (R ((w.drew.alloc (.cells (bytesRow s (grownCap w s.size 0 e)) e ((bytesRow s (grownCap w s.size 0 e)).size, (bytesRow s (grownCap w s.size 0 e)).size + 1)))) (Own X G.β st.m) (.int .u8)) l (l.map fun b => [Value.int .u8 b]) := by
          intro l
          induction l with
          | nil => trivial
          | cons y l ih => exact ⟨by simp [R], ih⟩
        exact this _
      · rw [add_at, Nat.zero_add]
        have h0 := World.cell?_alloc_mark w.drew (bytesRow s (grownCap w s.size 0 e)) e ((bytesRow s (grownCap w s.size 0 e)).size, (bytesRow s (grownCap w s.size 0 e)).size + 1) j
        refine Eq.trans h0 ?_
        have hfl : ∀ l : List Int, (l.map fun b => [Value.int .u8 b]).flatten = l.map (Value.int .u8) := by
          intro l; induction l with
          | nil => rfl
          | cons y l ih => simp [ih]
        rw [hfl] at hj
        have hjl : j < s.data.toList.length := by
          have := (List.getElem?_eq_some_iff.1 hj).1
          simpa [bytesOf] using this
        rw [← Array.getElem?_toList]
        simp only [bytesRow, Array.toList_append, Array.toList_map]
        rw [List.getElem?_append_left (by simpa using hjl)]
        simp only [bytesOf, List.map_map] at hj
        rw [← hj]
        rfl
    · trivial
  · trivial
end Go.Proofs.YtlnbcpcnpofnoaaGreatDoor.E

/- Calls, by what is known of the functions; then each operation. -/
namespace Go.Proofs.YtlnbcpcnpofnoaaGreatDoor.E
open Go Go.RowKit
set_option linter.unusedVariables false
set_option linter.unusedSimpArgs false

variable {P : Program} {X : Nat → Prop} {F : Root} {w0 : World} {n : Nat} {G : Gh} {st : St} {a : Act} {w : World} {o : Oper}

abbrev Glob := Nat → Option (IntKind × List Int)
def LaidG (gl : Glob) (w : World) : Prop := ∀ g k l, gl g = some (k, l) → ∃ (e : TypeId) (cs : List Value) (fr : Nat × Nat), w.heap[g]? = some (.cells cs.toArray e fr) ∧ cs = l.map (Value.int k)
def Entered (P : Program) (f : FuncId) : Prop := ∃ fn, P.funcs[f]? = some fn ∧ fn.body.isNone = false ∧ (fn.name == "runtime.NumGoroutine") = false
/-- What is known of a function: its answers are the evaluator's. -/
def Ctr (P : Program) (gl : Glob) (f : FuncId) : FnE → Prop
  | .plain args res tup F => Entered P f ∧ ∀ (X : Nat → Prop) (x : args.D) (r : res.D) (w : World) (vs : List Value), LaidG gl w → (∀ g v, gl g = some v → ¬ X g) → (∀ g, X g → g < w.heap.size) → ArgsR w X args x vs → F x r →
      Calls P f vs.toArray w fun e w' => ∃ v, e = .returned v ∧ Grows w w' ∧ OutR w' X tup res r v
  | .own args ty F => Entered P f ∧ ∀ (X : Nat → Prop) (x : args.D) (r : List ty.D) (w : World) (vs : List Value), LaidG gl w → (∀ g v, gl g = some v → ¬ X g) → (∀ g, X g → g < w.heap.size) → ArgsR w X args x vs → F x r →
      Calls P f vs.toArray w fun e w' => ∃ v, e = .returned v ∧ Grows w w' ∧ NewRow w w' X ty r v
  | .ioRow ty args res F => Entered P f ∧ ty.hasLst = false ∧ ∀ (X : Nat → Prop) (l : List ty.D) (x : args.D) (r : res.D × List ty.D) (w : World) (vs : List Value) (g : Nat) (e : TypeId) (cap : Nat) (pre post : List Value) (css : List (List Value)),
      LaidG gl w → (∀ b v, gl b = some v → ¬ (X b ∨ b = g)) → (∀ b, X b → b < w.heap.size) → ¬ X g → 0 < List.length l → List.length l ≤ cap →
      w.heap[g]? = some (.cells (pre ++ css.flatten ++ post).toArray e (0, 0)) → All2 (R w (fun b => X b ∨ b = g) ty) l css → ArgsR w (fun b => X b ∨ b = g) args x vs → F l x r →
      Calls P f (.slice (some ⟨g, pre.length, none⟩) (List.length l) cap :: vs).toArray w fun en w' => ∃ v, en = .returned v ∧ But g w w' ∧ List.length r.2 = List.length l ∧
        (∃ (e' : TypeId) (css' : List (List Value)), w'.heap[g]? = some (.cells (pre ++ css'.flatten ++ post).toArray e' (0, 0)) ∧ All2 (R w' (fun b => X b ∨ b = g) ty) r.2 css') ∧ OutIO w' X res r.1 v
  | .ioBox ty args res F => Entered P f ∧ ty.hasLst = false ∧ ∀ (X : Nat → Prop) (y : ty.D) (x : args.D) (r : res.D × ty.D) (w : World) (vs : List Value) (g : Nat) (e : TypeId) (pre post : List Value) (c : Value),
      LaidG gl w → (∀ b v, gl b = some v → ¬ (X b ∨ b = g)) → (∀ b, X b → b < w.heap.size) → ¬ X g → c.oneCell' = true →
      w.heap[g]? = some (.cells (pre ++ [c] ++ post).toArray e (0, 0)) → VR w (fun b => X b ∨ b = g) ty y c → ArgsR w (fun b => X b ∨ b = g) args x vs → F y x r →
      Calls P f (.pointer (some ⟨g, pre.length, none⟩) :: vs).toArray w fun en w' => ∃ v, en = .returned v ∧ But g w w' ∧
        (∃ (e' : TypeId) (c' : Value), w'.heap[g]? = some (.cells (pre ++ [c'] ++ post).toArray e' (0, 0)) ∧ c'.oneCell' = true ∧ VR w' (fun b => X b ∨ b = g) ty r.2 c') ∧ OutIO w' X res r.1 v
theorem enters {c : Call} (ho : o.op = .call c) {f : FuncId} {y0 : Operand} (hc : c.callee = .value y0) (hev : a.eval y0 = .func (.func f) #[] #[]) (hf : Entered P f) {Post : Value → World → Prop}
    (h : Calls P f (c.args.map a.eval) w fun e w' => ∃ v, e = .returned v ∧ Post v w') : Enters P o a w Post := by
  obtain ⟨fn, h1, h2, h3⟩ := hf
  refine ⟨f, _, ?_, h⟩
  simp only [execOp, ho, resolve, hc, hev, Deferred.ofValue, Sem.run_bind, Sem.run_pure, Result.andThen, invoke, callFunc]
  simp [h1, h2, h3]
theorem TupR_flat {w w' : World} {own own' : Nat → Prop} : ∀ {ty : Ty} {x : ty.D} {vs : List Value}, ty.hasLst = false → TupR w own ty x vs → TupR w' own' ty x vs
  | .nil, _, _, _, h => h
  | .pair a b, _, _, hl, h => by
    simp only [Ty.hasLst, Bool.or_eq_false_iff] at hl
    simp only [TupR] at h ⊢; obtain ⟨v, r, rfl, h1, h2⟩ := h; exact ⟨v, r, rfl, VR_flat hl.1 h1, TupR_flat hl.2 h2⟩
  | .int _, _, _, hl, h => by simp only [TupR] at h ⊢; obtain ⟨v, rfl, h⟩ := h; exact ⟨v, rfl, VR_flat hl h⟩
  | .bool, _, _, hl, h => by simp only [TupR] at h ⊢; obtain ⟨v, rfl, h⟩ := h; exact ⟨v, rfl, VR_flat hl h⟩
  | .str, _, _, hl, h => by simp only [TupR] at h ⊢; obtain ⟨v, rfl, h⟩ := h; exact ⟨v, rfl, VR_flat hl h⟩
  | .any, _, _, hl, h => by simp only [TupR] at h ⊢; obtain ⟨v, rfl, h⟩ := h; exact ⟨v, rfl, VR_flat hl h⟩
  | .lst _, _, _, hl, h => by simp [Ty.hasLst] at hl
  | .agg _, _, _, hl, h => by simp only [TupR] at h ⊢; obtain ⟨v, rfl, h⟩ := h; exact ⟨v, rfl, VR_flat hl h⟩
theorem OutR_flat {w w' : World} {own own' : Nat → Prop} {tup : Bool} {ty : Ty} {x : ty.D} {v : Value} (hl : ty.hasLst = false) (h : OutR w own tup ty x v) : OutR w' own' tup ty x v := by
  cases tup
  · exact VR_flat hl h
  · obtain ⟨vs, rfl, h⟩ := h; exact ⟨vs, rfl, TupR_flat hl h⟩
theorem looks_LR (E : EnvR X F w0 n G st a w) (x : Operand) : LR w (Own X G.β st.m) G st.m (st.look x) (a.eval x) := look_LR E x
theorem own_lt (E : EnvR X F w0 n G st a w) {g : Nat} (h : Own X G.β st.m g) : g < w.heap.size := by
  rcases h with h | ⟨d, h⟩
  · exact Nat.lt_of_lt_of_le (E.xlt g h) E.grown
  · exact blk_lt (E.mems d) h
theorem map_map_fst (st : St) (l : List Operand) : (l.map fun x => (st.look x).1) = (l.map st.look).map (·.1) := by simp
theorem ok_plain (E : EnvR X F w0 n G st a w) {c : Call} (ho : o.op = .call c) {f : FuncId} {y0 : Operand} (hc : c.callee = .value y0) (hev : a.eval y0 = .func (.func f) #[] #[]) {gl : Glob} {args res : Ty} {tup : Bool} {Fn : args.D → M res.D} (hf : Ctr P gl f (.plain args res tup Fn))
    (hL : LaidG gl w) (hg : ∀ g v, gl g = some v → ¬ Own X G.β st.m g) {x : args.D} (hx : asArgs st.look c.args.toList args = some x) :
    OpOK P X G st o a w (.call res tup (Fn x) (bif res.hasLst then rowsOf (c.args.toList.map fun x => (st.look x).1) else [])) := by
  intro r hr
  obtain ⟨he, hf⟩ := hf
  obtain ⟨E1, hsub, hfree⟩ := E.kill (rowsOf (c.args.toList.map fun x => (st.look x).1))
  have hsub' : ∀ g, Own X G.β (st.kill (rowsOf (c.args.toList.map fun x => (st.look x).1))).m g → Own X G.β st.m g := fun g h => Own_kill hsub h
  have ha := asArgs_R E.mems (look_LR E) hsub' c.args.toList hx hfree
  have hcall := hf _ x r w _ hL (fun g v h k => hg g v h (hsub' g k)) (fun g h => own_lt E (hsub' g h)) ha hr
  refine enters ho hc hev he ?_
  have hargs : c.args.map a.eval = (c.args.toList.map a.eval).toArray := args_list rfl
  rw [hargs]
  refine hcall.mono fun e w' ⟨v, h1, h2, h3⟩ => ⟨v, h1, h2, ?_⟩
  cases hh : res.hasLst
  · exact OutR_flat hh h3
  · exact h3
theorem ok_own (E : EnvR X F w0 n G st a w) {c : Call} (ho : o.op = .call c) {f : FuncId} {y0 : Operand} (hc : c.callee = .value y0) (hev : a.eval y0 = .func (.func f) #[] #[]) {gl : Glob} {args ty : Ty} {Fn : args.D → M (List ty.D)} (hf : Ctr P gl f (.own args ty Fn))
    (hL : LaidG gl w) (hg : ∀ g v, gl g = some v → ¬ Own X G.β st.m g) {x : args.D} (hx : asArgs st.look c.args.toList args = some x) (hr : rowsOf (c.args.toList.map fun x => (st.look x).1) = []) :
    OpOK P X G st o a w (.callOwn ty (Fn x)) := by
  intro r hrr
  obtain ⟨he, hf⟩ := hf
  have ha := asArgs_R (own' := Own X G.β st.m) E.mems (look_LR E) (fun _ h => h) c.args.toList hx (by rw [hr]; intro d hd; cases hd)
  have hcall := hf _ x r w _ hL hg (fun g h => own_lt E h) ha hrr
  refine enters ho hc hev he ?_
  have hargs : c.args.map a.eval = (c.args.toList.map a.eval).toArray := args_list rfl
  rw [hargs]
  exact hcall
theorem asOne_none {own : Nat → Prop} {β : Nat → Value} {m : Nat → MB} {v : AV} {c : Value} {ty : Ty} {y : ty.D} (h : AR w own β m v c) (hy : asOne v .none ty = some y) : VR w own ty y c := by
  unfold asOne at hy
  split at hy
  · exact coD_VR hy h
  · split at hy
    · obtain rfl := Option.some.inj hy
      simp only [AR] at h; subst h
      exact VR_cell (by simp [R]) (by simp) (by simp)
    · cases hy
  · cases ty <;> simp at hy
  · cases ty <;> simp at hy
  · cases hy
theorem asOne_row {x : AV} {b : MB} {ty : Ty} {y : ty.D} (hy : asOne x b ty = some y) {d : Nat} (hd : d ∈ rowsOf [x]) : (x = .row d ∨ ∃ off n, x = .view d off n) ∧ ∃ app t l, b = .own app t l := by
  unfold asOne at hy
  split at hy
  · simp [rowsOf] at hd
  · simp [rowsOf] at hd
  · simp [rowsOf] at hd; subst hd
    split at hy
    · exact ⟨.inl rfl, _, _, _, rfl⟩
    · cases hy
  · simp [rowsOf] at hd; subst hd
    split at hy
    · exact ⟨.inr ⟨_, _, rfl⟩, _, _, _, rfl⟩
    · cases hy
  · cases hy
theorem rowsOf_head (x : AV) (l : List AV) {d : Nat} (h : d ∈ rowsOf (x :: l)) : d ∈ rowsOf [x] ∨ d ∈ rowsOf l := by
  cases x <;> simp [rowsOf] at h ⊢ <;> exact h
theorem rows_own (E : EnvR X F w0 n G st a w) : ∀ (l : List Operand) {ty : Ty} {y : ty.D}, asArgs st.look l ty = some y → ∀ d ∈ rowsOf (l.map fun x => (st.look x).1), ∃ app t l, st.m d = .own app t l
  | [], _, _, _, d, hd => by cases hd
  | [x], ty, y, hy, d, hd => by
    unfold asArgs at hy
    split at hy
    · cases hy
    · obtain ⟨h1, app, t, l, h2⟩ := asOne_row hy hd
      have L := (look_LR E x).2
      rcases h1 with h1 | ⟨_, _, h1⟩ <;> rw [h1] at L <;> simp only at L <;> exact ⟨app, t, l, by rw [← L]; exact h2⟩
  | x :: z :: r, ty, y, hy, d, hd => by
    unfold asArgs at hy
    cases ty <;> first | (cases hy; done) | skip
    simp only at hy
    split at hy
    · rename_i u v e1 e2
      rcases rowsOf_head _ _ hd with hd | hd
      · obtain ⟨h1, app, t, l, h2⟩ := asOne_row e1 hd
        have L := (look_LR E x).2
        rcases h1 with h1 | ⟨_, _, h1⟩ <;> rw [h1] at L <;> simp only at L <;> exact ⟨app, t, l, by rw [← L]; exact h2⟩
      · exact rows_own E (z :: r) e2 d hd
    · cases hy
/-- What a function may not touch that is handed block g to write on. -/
def But1 (own : Nat → Prop) (g : Nat) : Nat → Prop := fun b => own b ∧ b ≠ g
theorem io_args (E : EnvR X F w0 n G st a w) {gl : Glob} (hg : ∀ g v, gl g = some v → ¬ Own X G.β st.m g) {d g : Nat} (hbd : blk G.β st.m d = some g) {xs : List Operand} {args : Ty} {x : args.D} (hx : asArgs st.look xs args = some x)
    (hd : d ∉ rowsOf (xs.map fun x => (st.look x).1)) : ∃ own : Nat → Prop, (∀ b v, gl b = some v → ¬ (own b ∨ b = g)) ∧ (∀ b, own b → b < w.heap.size) ∧ ¬ own g ∧ ArgsR w (fun b => own b ∨ b = g) args x (xs.map a.eval) := by
  obtain ⟨E1, hsub, hfree⟩ := E.kill (rowsOf (xs.map fun x => (st.look x).1))
  have hog : Own X G.β st.m g := .inr ⟨d, hbd⟩
  refine ⟨But1 (Own X G.β (st.kill (rowsOf (xs.map fun x => (st.look x).1))).m) g, fun b v h k => ?_, fun b h => own_lt E (Own_kill hsub h.1), fun h => h.2 rfl, ?_⟩
  · rcases k with k | rfl
    · exact hg b v h (Own_kill hsub k.1)
    · exact hg _ v h hog
  · refine asArgs_R E.mems (look_LR E) (fun b h => ?_) xs hx fun e he b hb h => ?_
    · rcases h with h | rfl
      · exact Own_kill hsub h.1
      · exact hog
    · rcases h with h | rfl
      · exact hfree e he b hb h.1
      · exact hd (by rw [← E.disj e d _ hb hbd]; exact he)
theorem But.agree {g : Nat} {own : Nat → Prop} {w w' : World} (h : But g w w') (hg : own g) : Agree w w' own own := ⟨fun k hk ho => h.heap k hk fun e => ho (e ▸ hg), fun _ _ h => h⟩
theorem ok_ioBox (E : EnvR X F w0 n G st a w) {c : Call} (ho : o.op = .call c) {f : FuncId} {y0 : Operand} (hc : c.callee = .value y0) (hev : a.eval y0 = .func (.func f) #[] #[]) {gl : Glob} {ty args res : Ty} {Fn : ty.D → args.D → M (res.D × ty.D)} (hf : Ctr P gl f (.ioBox ty args res Fn))
    (hL : LaidG gl w) (hg : ∀ g v, gl g = some v → ¬ Own X G.β st.m g) {x0 : Operand} {xs : List Operand} (hargs : c.args.toList = x0 :: xs) {x : args.D} (hx : asArgs st.look xs args = some x) (hres : res.hasLst = false)
    {d off : Nat} {l : List AV} (h1 : (st.look x0).1 = .ptr d off) (h2 : (st.look x0).2 = .box l) {v : AV} (hv : l[off]? = some v) {y : ty.D} (hy : asOne v .none ty = some y) :
    OpOK P X G st o a w (.callBox ty res (Fn y x) d off l) := by
  refine ⟨hres, fun r hr => ?_⟩
  obtain ⟨he, hflat, hf⟩ := hf
  have L := look_LR E x0
  obtain ⟨L1, L2⟩ := L
  rw [h1] at L1 L2
  simp only at L2
  have hm : st.m d = .box l := by rw [← L2]; exact h2
  have hM := E.mems d
  unfold MR at hM; rw [hm] at hM; simp only at hM
  obtain ⟨g, e, cs, hβ, hh, hcs, hone⟩ := hM
  simp only [AR, hm] at L1
  obtain ⟨ad, hb, _, hxv⟩ := L1
  obtain rfl : (⟨g, (G.π d).1.length, none⟩ : Addr) = ad := by rw [hβ] at hb; simpa using hb
  have hbd : blk G.β st.m d = some g := by rw [blk_box hm, hβ]; rfl
  have hog : Own X G.β st.m g := .inr ⟨d, hbd⟩
  obtain ⟨c0, hc0, hvc⟩ := All2.get off hcs hv
  have hlt : off < cs.length := (List.getElem?_eq_some_iff.1 hc0).1
  have hsplit : cs = cs.take off ++ [c0] ++ cs.drop (off + 1) := by
    have : cs[off] = c0 := (List.getElem?_eq_some_iff.1 hc0).2
    rw [List.append_assoc, ← this]; simp
  have hnot : d ∉ rowsOf (xs.map fun x => (st.look x).1) := by
    intro hd
    obtain ⟨app, t, l', h⟩ := rows_own E xs hx d hd
    rw [hm] at h; cases h
  obtain ⟨own, o1, o2, o3, o4⟩ := io_args E hg hbd hx hnot
  have hcall := hf own y x r w _ g e ((G.π d).1 ++ cs.take off) (cs.drop (off + 1) ++ (G.π d).2) c0 hL o1 o2 o3 (hone c0 (List.mem_of_getElem? hc0))
    (by rw [hh]; congr 3; conv => lhs; rw [hsplit]
        simp) (VR_flat hflat (asOne_none hvc hy)) o4 hr
  refine enters ho hc hev he ?_
  rw [args_list hargs, List.map_cons, hxv, add_at]
  have hpl : ((G.π d).1 ++ cs.take off).length = (G.π d).1.length + off := by simp; omega
  rw [hpl] at hcall
  refine hcall.mono fun en w' ⟨v', e1, hbut, ⟨e', c', hh', hone', hvr⟩, hout⟩ => ⟨v', e1, ⟨⟨l, hm⟩, g, e', cs.set off c', hβ, hbut, ?_, ?_, ?_⟩, hout.imp id (VR_flat hres)⟩
  · rw [hh']
    congr 3
    rw [List.set_eq_take_append_cons_drop, if_pos hlt]
    simp
  · refine All2.set off (hcs.mono fun _ _ h => AR_mono (hbut.agree hog) (fun _ _ => rfl) (fun _ => Later.refl _) h) ?_
    exact VR_flat hflat hvr
  · intro c1 hc1
    rcases List.mem_or_eq_of_mem_set hc1 with h | rfl
    · exact hone c1 h
    · exact hone'
theorem ok_ioRow_piece (E : EnvR X F w0 n G st a w) {c : Call} (ho : o.op = .call c) {f : FuncId} {y0 : Operand} (hc : c.callee = .value y0) (hev : a.eval y0 = .func (.func f) #[] #[]) {gl : Glob} {ty args res : Ty} {Fn : List ty.D → args.D → M (res.D × List ty.D)} (hf : Ctr P gl f (.ioRow ty args res Fn))
    (hL : LaidG gl w) (hg : ∀ g v, gl g = some v → ¬ Own X G.β st.m g) {x0 : Operand} {xs : List Operand} (hargs : c.args.toList = x0 :: xs) {x : args.D} (hx : asArgs st.look xs args = some x) (hres : res.hasLst = false)
    {d off k : Nat} {app : Bool} {l : List ty.D} (hm : st.m d = .own app ty l) (hnot : d ∉ rowsOf (xs.map fun x => (st.look x).1)) {cap : Nat} (hv : a.eval x0 = .slice ((headOf (G.β d)).map (·.add (off * ty.n))) k cap) (hk : 0 < k) (hkc : k ≤ cap) (hle : off + k ≤ List.length l)
    {fr : List ty.D → List ty.D} (hfr : ∀ q : List ty.D, List.length q = k → fr q = l.take off ++ q ++ l.drop (off + k)) :
    OpOK P X G st o a w (.callRow ty res (Fn ((l.drop off).take k) x) d app fr) := by
  refine ⟨hres, fun r hr => ?_⟩
  obtain ⟨he, hflat, hf⟩ := hf
  have hM := E.mems d
  unfold MR at hM; rw [hm] at hM; simp only at hM
  rcases hM with ⟨_, rfl, _⟩ | ⟨g, e, cap0, css, post, hβ, hh, hcs, hc0, happ⟩
  · simp at hle; omega
  have hbd : blk G.β st.m d = some g := by rw [blk_row hm, hβ]; rfl
  have hog : Own X G.β st.m g := .inr ⟨d, hbd⟩
  have hlens := All2_lens hcs
  have hclen := All2.length hcs
  obtain ⟨own, o1, o2, o3, o4⟩ := io_args E hg hbd hx hnot
  have hlen : List.length ((l.drop off).take k) = k := by simp; omega
  have hcut : css = css.take off ++ ((css.drop off).take k ++ css.drop (off + k)) := by
    rw [← List.drop_drop, List.take_append_drop, List.take_append_drop]
  have hpre : ((G.π d).1 ++ (css.take off).flatten).length = (G.π d).1.length + off * ty.n := by
    have := flat_len (All2.take off hcs)
    rw [List.length_append, this, List.length_take, Nat.min_eq_left (by omega)]
  have hcall := hf own ((l.drop off).take k) x r w _ g e cap ((G.π d).1 ++ (css.take off).flatten) ((css.drop (off + k)).flatten ++ post) ((css.drop off).take k) hL o1 o2 o3 (by rw [hlen]; exact hk) (by rw [hlen]; exact hkc)
    (by rw [hh]; congr 3; conv => lhs; rw [hcut]
        simp) ((All2.take k (All2.drop off hcs)).mono fun _ _ h => R_flat hflat h) o4 hr
  refine enters ho hc hev he ?_
  rw [args_list hargs, List.map_cons, hv, hβ]
  simp only [headOf, Option.map_some, add_at]
  rw [hpre, hlen] at hcall
  refine hcall.mono fun en w' ⟨v', e1, hbut, hrl, ⟨e', css', hh', hrr⟩, hout⟩ => ?_
  have hfl := hfr r.2 hrl
  have hlen2 : List.length (fr r.2) = List.length l := by
    rw [hfl]; simp only [List.length_append, List.length_take, List.length_drop, hrl]; omega
  have hall : All2 (R w' (Own X G.β st.m) ty) (fr r.2) (css.take off ++ css' ++ css.drop (off + k)) := by
    rw [hfl]
    exact All2.append (All2.append ((All2.take off hcs).mono fun _ _ h => R_flat hflat h) (hrr.mono fun _ _ h => R_flat hflat h)) ((All2.drop (off + k) hcs).mono fun _ _ h => R_flat hflat h)
  refine ⟨v', e1, ⟨⟨l, hm, hlen2.symm⟩, g, e', cap0, css.take off ++ css' ++ css.drop (off + k), post, by rw [hlen2]; exact hβ, hbut, ?_, hall, by rw [hlen2]; exact hc0, ?_⟩, hout.imp id (VR_flat hres)⟩
  · rw [hh']
    congr 3
    simp
  · have f1 := flat_len hall
    have f2 := flat_len hcs
    rw [hlen2, ← f2] at f1
    rw [f1]; exact happ
theorem memN0_spec {l r : List Nat} (h : memN0 l r = false) : ∃ d, l = [d] ∧ d ∉ r := by
  unfold memN0 at h
  split at h
  · rename_i d
    refine ⟨d, rfl, fun hd => ?_⟩
    have : (r.any fun e => Nat.beq d e) = true := List.any_eq_true.2 ⟨d, hd, Nat.beq_refl d⟩
    rw [h] at this; cases this
  · cases h
structure CtxOK (P : Program) (Γ : Ctx) : Prop where
  ty : ∀ T, (Γ.ty T).ok P T
  eq : ∀ T ty, Γ.eq T = some ty → EqOK P T ty
  fld : ∀ T k u, Γ.fld T k = some u → FldOK P T k u
  fn : ∀ f e, Γ.fn f = some e → Ctr P Γ.glob f e
theorem ok_fnCall (E : EnvR X F w0 n G st a w) {c : Call} (ho : o.op = .call c) {Γ : Ctx} (hΓ : CtxOK P Γ) (hL : LaidG Γ.glob w) (hg : ∀ g v, Γ.glob g = some v → ¬ Own X G.β st.m g) {f : FuncId} {y0 : Operand} (hc : c.callee = .value y0) (hev : a.eval y0 = .func (.func f) #[] #[]) :
    OpOK P X G st o a w (evFnCall Γ c st.look f) := by
  unfold evFnCall
  split
  · rename_i args res tup Fn hfn
    split
    · rename_i x hx
      exact ok_plain E ho hc hev (hΓ.fn _ _ hfn) hL hg hx
    · trivial
  · rename_i args ty Fn hfn
    split
    · rename_i x hx hr
      exact ok_own E ho hc hev (hΓ.fn _ _ hfn) hL hg hx hr
    · trivial
  · rename_i ty args res Fn hfn
    split
    · rename_i x0 xs hargs
      split
      · rename_i x hx hmem hres
        obtain ⟨d0, hd0, hnot⟩ := memN0_spec hmem
        have L := look_LR E x0
        obtain ⟨L1, L2⟩ := L
        split
        · rename_i d app t l h1 h2
          split
          · rename_i het
            subst het
            intro hpos
            replace hpos : 0 < List.length l := hpos
            rw [h1] at L1 L2 hd0
            simp only at L2
            have hm : st.m d = .own app t l := by rw [← L2]; exact h2
            obtain rfl : d = d0 := by simpa [rowsOf] using hd0
            simp only [AR, hm] at L1
            obtain ⟨ao, cap, hβ, hcap⟩ := MR_head (E.mems d) hm
            have := ok_ioRow_piece E ho hc hev (hΓ.fn _ _ hfn) hL hg hargs hx hres hm hnot (off := 0) (k := List.length l) (cap := cap)
              (by rw [L1, hβ]; simp [headOf, add_zero]) hpos hcap (by omega) (fr := fun c => c) (fun q hq => by simp)
            rw [show (List.drop 0 l).take (List.length l) = l by simp] at this
            exact this
          · trivial
        · rename_i d off k app t l h1 h2
          split
          · rename_i het
            subst het
            intro hpos
            replace hpos : 0 < k := hpos
            rw [h1] at L1 L2 hd0
            simp only at L2
            have hm : st.m d = .own app t l := by rw [← L2]; exact h2
            obtain rfl : d = d0 := by simpa [rowsOf] using hd0
            simp only [AR, hm] at L1
            obtain ⟨hle, cap, hcap, hv⟩ := L1
            exact ok_ioRow_piece E ho hc hev (hΓ.fn _ _ hfn) hL hg hargs hx hres hm hnot hv hpos hcap hle (fun q hq => rfl)
          · trivial
        · trivial
      · trivial
    · trivial
  · rename_i ty args res Fn hfn
    split
    · rename_i x0 xs hargs
      split
      · rename_i x hx hres
        split
        · rename_i d off l h1 h2
          split
          · rename_i v hv
            split
            · rename_i y hy
              exact ok_ioBox E ho hc hev (hΓ.fn _ _ hfn) hL hg hargs hx hres h1 h2 hv hy
            · trivial
          · trivial
        · trivial
      · trivial
    · trivial
  · trivial
theorem ok_call (E : EnvR X F w0 n G st a w) {c : Call} (ho : o.op = .call c) {Γ : Ctx} (hΓ : CtxOK P Γ) (hL : LaidG Γ.glob w) (hg : ∀ g v, Γ.glob g = some v → ¬ Own X G.β st.m g) : OpOK P X G st o a w (evCall Γ c st.look) := by
  unfold evCall
  split
  · rename_i b hc
    split
    · rename_i x hx
      split
      · rename_i t ht
        have hT := hΓ.ty t
        split
        · rename_i e ty size bytes hti
          rw [hti] at hT
          have L := look_LR E x
          obtain ⟨L1, L2⟩ := L
          split
          · rename_i mb ty' l h1
            obtain ⟨l, rfl⟩ : ∃ l' : List ty'.D, l' = l := ⟨l, rfl⟩
            have hv := VR_lst (look_t E h1)
            simp only [R] at hv
            obtain ⟨ao, cap, hv, _⟩ := hv
            have hv : a.eval x = .slice ao (List.length l) cap := by simpa using hv
            exact ok_len E ho hc hx ht (by rw [hv]; exact run_len_row hT.1 _ _ _ _ w) (int_VR _ _ _ _)
          · rename_i mb u h1
            have hv := VR_nil (look_t E h1)
            exact ok_len E ho hc hx ht (by rw [hv]; exact run_len_row hT.1 _ _ _ _ w) (int_VR _ _ _ _)
          · rename_i d app ty' l h1 h2
            obtain ⟨l, rfl⟩ : ∃ l' : List ty'.D, l' = l := ⟨l, rfl⟩
            rw [h1] at L1 L2
            simp only at L2
            have hm : st.m d = .own app ty' l := by rw [← L2]; exact h2
            simp only [AR, hm] at L1
            obtain ⟨ao, cap, hβ, _⟩ := MR_head (E.mems d) hm
            exact ok_len E ho hc hx ht (by rw [L1, hβ]; exact run_len_row hT.1 _ _ _ _ w) (int_VR _ _ _ _)
          · rename_i d off k app ty' l h1 h2
            rw [h1] at L1 L2
            simp only at L2
            have hm : st.m d = .own app ty' l := by rw [← L2]; exact h2
            simp only [AR, hm] at L1
            obtain ⟨_, cap, _, hv⟩ := L1
            exact ok_len E ho hc hx ht (by rw [hv]; exact run_len_row hT.1 _ _ _ _ w) (int_VR _ _ _ _)
          · trivial
        · rename_i hti
          rw [hti] at hT
          split
          · rename_i s h1
            obtain ⟨s, rfl⟩ : ∃ s' : ByteArray, s' = s := ⟨s, rfl⟩
            have hv := VR_str (look_t E h1)
            exact ok_len E ho hc hx ht (by rw [hv]; exact run_len_str hT.1 _ _ w) (int_VR _ _ _ _)
          · trivial
        · trivial
      · trivial
    · rename_i x r hx
      split
      · rename_i k i h1
        obtain ⟨i, rfl⟩ : ∃ i' : Int, i' = i := ⟨i, rfl⟩
        split
        · rename_i v h2
          have := foldI_max (P := P) (a := a) w (st := st.look) (fun z _ j i h => look_int E h) h2
          refine put_ok (ok_builtin ho hc (s := Builtin.max_ c.argTypes o.type (c.args.map a.eval)) (fun _ => rfl) ?_) (int_VR _ _ _ _)
          rw [args_list hx]
          simp only [Builtin.max_, List.map_cons, look_int E h1]
          exact this
        · trivial
      · trivial
    · rename_i x r hx
      split
      · rename_i k i h1
        obtain ⟨i, rfl⟩ : ∃ i' : Int, i' = i := ⟨i, rfl⟩
        split
        · rename_i v h2
          have := foldI_min (P := P) (a := a) w (st := st.look) (fun z _ j i h => look_int E h) h2
          refine put_ok (ok_builtin ho hc (s := Builtin.min_ c.argTypes o.type (c.args.map a.eval)) (fun _ => rfl) ?_) (int_VR _ _ _ _)
          rw [args_list hx]
          simp only [Builtin.min_, List.map_cons, look_int E h1]
          exact this
        · trivial
      · trivial
    · rename_i x y hx
      split
      · rename_i t u ht
        split
        · rename_i e ty size bytes htu hti
          obtain rfl := Nat.eq_of_beq_eq_true htu
          have hT := hΓ.ty t
          rw [hti] at hT
          obtain ⟨t1, _, i, z, t2, t3, t4, t5, t6⟩ := hT
          split
          · rename_i add hadd
            have hc' : c = { callee := .builtin .append, args := #[x, y], argTypes := #[t, t] } := by
              cases c
              simp only at hc hx ht
              rw [hc]
              congr 1 <;> apply Array.ext' <;> assumption
            exact ok_evAppend E (by rw [ho, hc']) t1 t2 t3 t4 t5 t6 hadd
          · trivial
        · trivial
      · trivial
    · trivial
  · rename_i f hc
    exact ok_fnCall E ho hΓ hL hg hc rfl
  · rename_i x hx hc
    split
    · rename_i f hf
      refine ok_fnCall E ho hΓ hL hg hc ?_
      have h := (look_LR E x).1
      rw [hf] at h
      exact h
    · trivial
  · trivial
theorem evOp_ok (E : EnvR X F w0 n G st a w) {Γ : Ctx} (hΓ : CtxOK P Γ) (hL : LaidG Γ.glob w) (hg : ∀ g v, Γ.glob g = some v → ¬ Own X G.β st.m g) : OpOK P X G st o a w (evOp Γ o st.look) := by
  have key : ∀ op, o.op = op → OpOK P X G st o a w (evOp Γ o st.look) := by
    intro op ho
    cases op
    case move x => have := ok_move (P := P) E (.inl ho); unfold evOp; rw [ho]; exact this
    case assign x => have := ok_move (P := P) E (.inr ho); unfold evOp; rw [ho]; exact this
    case pick c x y => exact ok_pick E ho Γ
    case alloc T => exact ok_alloc E ho (hΓ.ty T)
    case nilCheck x => exact ok_nilCheck E ho
    case box T x => exact ok_box E ho
    case fieldAddr T x k => exact ok_fieldAddr E ho (hΓ.ty T)
    case load T x => exact ok_load E ho (hΓ.ty T)
    case store T x y => exact ok_store E ho (hΓ.ty T)
    case indexAddr T x i => exact ok_indexAddr E ho (hΓ.ty T) hL hg
    case field T x k => exact ok_field E ho hΓ.ty hΓ.fld
    case index T x i => exact ok_index E ho (hΓ.ty T)
    case makeSlice T x y => exact ok_makeSlice E ho (hΓ.ty T)
    case build T parts => exact ok_build E ho (hΓ.ty T)
    case buildSlice T k parts => exact ok_buildSlice E ho (hΓ.ty T)
    case slice T x lo hi mx => exact ok_slice E ho (hΓ.ty T)
    case extract x i => exact ok_extract E ho Γ
    case convert S T x => exact ok_convert E ho hΓ.ty
    case binOp op T x y U => exact ok_bin E ho (hΓ.ty T) (hΓ.eq T)
    case unOp op T x => exact ok_un E ho Γ
    case call c => have := ok_call E ho hΓ hL hg; unfold evOp; rw [ho]; exact this
    all_goals (unfold evOp; rw [ho]; trivial)
  exact key _ rfl
end Go.Proofs.YtlnbcpcnpofnoaaGreatDoor.E
