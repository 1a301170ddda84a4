/- Values: constants, parts, what is looked up, one type into another. -/
import Derived.Test.YteidggfjcanbjaaQClockMoreS2
import Derived.Laws.Cells
import Derived.Laws.OwnMore
import Derived.Laws.MakeOwn
import Derived.Laws.CopyRow
namespace Go.Proofs.Yteidggfjcanbjaa.E
open Go Go.RowKit
set_option linter.unusedVariables false
set_option linter.unusedSimpArgs false

variable {P : Program} {X : Nat → Prop} {F : Root} {w0 : World} {n : Nat} {G : Gh} {st : St} {a : Act} {w : World} {own : Nat → Prop} {β : Nat → Value} {m : Nat → MB}

theorem VR_one {ty : Ty} {x : ty.D} {v : Value} (hv : v.oneCell' = true) (hc : v.cells = #[v]) (h : R w own ty x [v]) (ht : ∀ a, ty ≠ .agg a) (hp : ∀ a b, ty ≠ .pair a b) : VR w own ty x v := by
  refine ⟨by rw [hc]; exact h, ?_⟩
  cases ty with
  | agg a => exact absurd rfl (ht a)
  | pair a b => exact absurd rfl (hp a b)
  | _ => exact hv
theorem cells_of_one {v : Value} (h : v.oneCell' = true) : v.cells = #[v] := by cases v <;> simp_all [Value.cells, Value.oneCell']
/-- A cell's value, as a plain type's. -/
theorem VR_cell {ty : Ty} {x : ty.D} {v : Value} (h : R w own ty x [v]) (ht : ∀ a, ty ≠ .agg a) (hp : ∀ a b, ty ≠ .pair a b) : VR w own ty x v :=
  have h1 := R_one h v (by simp)
  VR_one h1 (cells_of_one h1) h ht hp

/-! ### Constants -/
theorem ofVal_R {v : Value} {x : Σ t : Ty, t.D} (h : ofVal v = some x) : R w own x.1 x.2 [v] ∧ v.oneCell' = true ∧ (∀ a, x.1 ≠ .agg a) ∧ (∀ a b, x.1 ≠ .pair a b) := by
  unfold ofVal at h
  split at h <;> first | (cases h; done) | (obtain rfl := Option.some.inj h; refine ⟨?_, by rfl, ?_, ?_⟩ <;> first | (simp [R]; done) | (intros; simp))
theorem tyOfL_R : ∀ {l : List (Σ t : Ty, t.D)} {vs : List Value}, l ≠ [] → All2 (fun x v => R w own x.1 x.2 [v]) l vs → R w own (tyOfL l).1 (tyOfL l).2 vs
  | [], _, h, _ => absurd rfl h
  | [x], [v], _, ⟨h, _⟩ => h
  | x :: y :: l, v :: u :: vs, _, ⟨h, r⟩ => by
    have := tyOfL_R (l := y :: l) (by simp) r
    simp only [tyOfL, R]
    exact ⟨[v], u :: vs, rfl, h, this⟩
  | [_], [], _, h => h.elim
  | [_], _ :: _ :: _, _, h => h.2.elim
  | _ :: _ :: _, [], _, h => h.elim
  | _ :: _ :: _, [_], _, h => h.2.elim
theorem ofVals_R : ∀ {vs : List Value} {l : List (Σ t : Ty, t.D)}, ofVals vs = some l → All2 (fun x v => R w own x.1 x.2 [v]) l vs
  | [], l, h => by simp [ofVals] at h; subst h; trivial
  | v :: vs, l, h => by
    simp only [ofVals] at h
    split at h
    · rename_i x l' h1 h2
      obtain rfl := Option.some.inj h
      exact ⟨(ofVal_R h1).1, ofVals_R h2⟩
    · cases h
theorem ofValue_AR (v : Value) : AR w own β m (ofValue v) v := by
  unfold ofValue
  split
  · rename_i cs
    split
    · rename_i x l h
      refine ⟨?_, cs, rfl⟩
      simp only [Value.cells, R]
      exact tyOfL_R (by simp) (ofVals_R h)
    · trivial
  · split
    · rename_i x h
      obtain ⟨h1, h2, h3, h4⟩ := ofVal_R (w := w) (own := own) h
      exact VR_one h2 (cells_of_one h2) h1 h3 h4
    · trivial

/-! ### Cells -/
theorem All2.split {α β : Type} {Q : α → β → Prop} : ∀ {l1 l2 : List α} {cs : List β}, All2 Q (l1 ++ l2) cs → ∃ c1 c2, cs = c1 ++ c2 ∧ All2 Q l1 c1 ∧ All2 Q l2 c2
  | [], l2, cs, h => ⟨[], cs, rfl, trivial, h⟩
  | x :: l1, l2, c :: cs, ⟨h, r⟩ => by
    obtain ⟨c1, c2, rfl, h1, h2⟩ := All2.split r
    exact ⟨c :: c1, c2, rfl, ⟨h, h1⟩, h2⟩
theorem cellsOf_AR : ∀ {t : Ty} {x : t.D} {cs : List Value}, R w own t x cs → All2 (AR w own β m) (cellsOf t x) cs
  | .pair a b, x, cs, h => by
    simp only [R] at h
    obtain ⟨c1, c2, rfl, h1, h2⟩ := h
    exact All2.append (cellsOf_AR h1) (cellsOf_AR h2)
  | .agg a, x, cs, h => by simp only [R] at h; exact cellsOf_AR (t := a) h
  | .int k, x, cs, h => by
    have h1 := R_len h
    match cs, h1, h with
    | [c], _, h => exact ⟨VR_cell h (by simp) (by simp), trivial⟩
  | .bool, x, cs, h => by
    have h1 := R_len h
    match cs, h1, h with
    | [c], _, h => exact ⟨VR_cell h (by simp) (by simp), trivial⟩
  | .str, x, cs, h => by
    have h1 := R_len h
    match cs, h1, h with
    | [c], _, h => exact ⟨VR_cell h (by simp) (by simp), trivial⟩
  | .nil, x, cs, h => by
    have h1 := R_len h
    match cs, h1, h with
    | [c], _, h => exact ⟨VR_cell h (by simp) (by simp), trivial⟩
  | .any, x, cs, h => by
    have h1 := R_len h
    match cs, h1, h with
    | [c], _, h => exact ⟨VR_cell h (by simp) (by simp), trivial⟩
  | .lst t, x, cs, h => by
    have h1 := R_len h
    match cs, h1, h with
    | [c], _, h => exact ⟨VR_cell h (by simp) (by simp), trivial⟩
theorem cellsOf_len : ∀ (t : Ty) (x : t.D), (cellsOf t x).length = t.n
  | .pair a b, x => by simp [cellsOf, Ty.n, cellsOf_len a, cellsOf_len b]
  | .agg a, x => by simp only [cellsOf, Ty.n]; exact cellsOf_len a x
  | .int _, _ => rfl
  | .bool, _ => rfl
  | .str, _ => rfl
  | .nil, _ => rfl
  | .any, _ => rfl
  | .lst _, _ => rfl
theorem VR_shape {ty : Ty} {x : ty.D} {v : Value} (h : VR w own ty x v) : (∃ cs, v = .agg cs) ∨ v.oneCell' = true := by
  obtain ⟨_, h⟩ := h
  cases ty with
  | agg a => exact .inl h
  | pair a b => exact h.elim
  | _ => exact .inr h
theorem plain_one {x : AV} {p : Σ t : Ty, t.D} {v : Value} (h : plainAV x = some p) (hr : AR w own β m x v) (hv : v.oneCell' = true) : R w own p.1 p.2 [v] := by
  unfold plainAV at h
  split at h
  · obtain rfl := Option.some.inj h
    have := hr.1
    rw [cells_of_one hv] at this
    exact this
  · obtain rfl := Option.some.inj h
    simp only [AR] at hr
    subst hr
    simp [R]
  · cases h
theorem gather_R : ∀ {l : List AV} {ps : List (Σ t : Ty, t.D)} {cs : List Value}, gather l = some ps → All2 (AR w own β m) l cs → (∀ c ∈ cs, c.oneCell' = true) → All2 (fun x v => R w own x.1 x.2 [v]) ps cs
  | [], ps, [], h, _, _ => by simp [gather] at h; subst h; trivial
  | x :: l, ps, c :: cs, h, ⟨hx, hr⟩, h1 => by
    simp only [gather] at h
    split at h
    · rename_i p ps' e1 e2
      obtain rfl := Option.some.inj h
      exact ⟨plain_one e1 hx (h1 c (by simp)), gather_R e2 hr fun c hc => h1 c (by simp [hc])⟩
    · cases h
theorem aggOf_AR {l : List AV} {cs : List Value} (h : All2 (AR w own β m) l cs) (h1 : ∀ c ∈ cs, c.oneCell' = true) : AR w own β m (aggOf l) (.agg cs.toArray) := by
  unfold aggOf
  split
  · rename_i x r e
    refine ⟨?_, _, rfl⟩
    have := tyOfL_R (by simp) (gather_R e h h1)
    simpa [Value.cells, R] using this
  · trivial
theorem add_add (a : Addr) (p j : Nat) : (a.add p).add j = a.add (p + j) := by
  unfold Addr.add
  by_cases hp : p = 0 <;> by_cases hj : j = 0
  · simp [hp, hj]
  · simp [hp, hj]
  · simp [hp, hj]
  · have : ¬ p + j = 0 := by omega
    simp [hp, hj, Nat.add_assoc]
theorem add_zero (a : Addr) : a.add 0 = a := rfl
theorem flatten_drop {k : Nat} : ∀ (css : List (List Value)) (off : Nat), (∀ c ∈ css, c.length = k) → (css.drop off).flatten = css.flatten.drop (off * k)
  | css, 0, _ => by simp
  | [], off + 1, _ => by simp
  | c :: css, off + 1, h => by
    have hc := h c (by simp)
    simp only [List.drop_succ_cons, List.flatten_cons]
    rw [flatten_drop css off (fun c hc => h c (by simp [hc])), List.drop_append, show (off + 1) * k - c.length = off * k by rw [hc, Nat.add_mul]; omega, List.drop_eq_nil_of_le (as := c) (by rw [hc, Nat.add_mul]; omega)]
    simp
theorem flatten_take {k : Nat} : ∀ (css : List (List Value)) (n : Nat), (∀ c ∈ css, c.length = k) → (css.take n).flatten = css.flatten.take (n * k)
  | css, 0, _ => by simp
  | [], n + 1, _ => by simp
  | c :: css, n + 1, h => by
    have hc := h c (by simp)
    simp only [List.take_succ_cons, List.flatten_cons]
    rw [flatten_take css n (fun c hc => h c (by simp [hc])), List.take_append, show (n + 1) * k - c.length = n * k by rw [hc, Nat.add_mul]; omega, List.take_of_length_le (l := c) (by rw [hc, Nat.add_mul]; omega)]
theorem All2_lens {ty : Ty} {own : Nat → Prop} : ∀ {l : List ty.D} {css : List (List Value)}, All2 (R w own ty) l css → ∀ c ∈ css, c.length = ty.n
  | [], [], _, _, hd => by cases hd
  | x :: l, c :: css, ⟨h, r⟩, d, hd => by
    rcases List.mem_cons.1 hd with rfl | hd
    · exact R_len h
    · exact All2_lens r d hd
theorem piece_get {ty : Ty} {own : Nat → Prop} {l : List ty.D} {css : List (List Value)} (h : All2 (R w own ty) l css) (off n j : Nat) {c : Value}
    (hj : ((css.drop off).take n).flatten[j]? = some c) : css.flatten[off * ty.n + j]? = some c := by
  have hl := All2_lens h
  rw [flatten_take _ _ (fun c hc => hl c (List.mem_of_mem_drop hc)), flatten_drop _ _ hl, List.getElem?_take] at hj
  split at hj
  · simpa using hj
  · cases hj
/-- What is looked up: the value, and what lies behind it. -/
def LR (w : World) (own : Nat → Prop) (G : Gh) (m : Nat → MB) (l : AV × MB) (v : Value) : Prop :=
  AR w own G.β m l.1 v ∧ (match l.1 with
    | .ptr d _ => l.2 = m d
    | .row d => l.2 = m d
    | .view d _ _ => l.2 = m d
    | .elt d _ => l.2 = m d
    | .t (.lst ty) x => l.2 = .none ∨ l.2 = .capd ∧ ∃ a, v = .slice a (List.length x) (List.length x)
    | _ => l.2 = .none)
theorem head_slice {v : Value} {a : Option Addr} {n cap : Nat} (h : v = .slice a n cap) : headOf v = a := by subst h; rfl
theorem at_LR {own : Nat → Prop} {G : Gh} {m : Nat → MB} (M : ∀ d, MR w own G m d) {x : AV} {v : Value} (h : AR w own G.β m x v) : LR w own G m (x.at m) v := by
  cases x with
  | row d =>
    have hM := M d
    simp only [AV.at]
    unfold MR at hM
    simp only [AR] at h
    cases hm : m d <;> rw [hm] at hM h <;> simp only at hM h ⊢ <;> try (exact h.elim)
    all_goals first
      | (refine ⟨?_, ?_⟩ <;> simp [AR, hm, h]; done)
      | skip
    refine ⟨?_, .inl rfl⟩
    subst h
    exact VR_cell hM (by simp) (by simp)
  | view d off n =>
    have hM := M d
    simp only [AV.at]
    unfold MR at hM
    simp only [AR] at h
    cases hm : m d <;> rw [hm] at hM h <;> simp only at hM h ⊢ <;> try (exact h.elim)
    all_goals first
      | (refine ⟨?_, ?_⟩ <;> simp [AR, hm, h]; done)
      | skip
    rename_i ty l
    refine ⟨?_, .inl rfl⟩
    obtain ⟨hle, cap, hcap, rfl⟩ := h
    simp only [R] at hM
    obtain ⟨ao, cap0, hβ, hc0, hM⟩ := hM
    have hβ' : G.β d = .slice ao (List.length l) cap0 := by simpa using hβ
    refine VR_cell (ty := .lst ty) ?_ (by simp) (by simp)
    simp only [R]
    have hlen : ((l.drop off).take n).length = n := by simp; omega
    refine ⟨_, cap, by rw [hlen], by rw [hlen]; exact hcap, ?_⟩
    by_cases hn : n = 0
    · subst hn; exact .inl (by simp)
    rcases hM with hM | ⟨a, css, rfl, ho, hr, hcell⟩
    · subst hM; simp at hle; omega
    · refine .inr ⟨a.add (off * ty.n), (css.drop off).take n, by rw [hβ']; rfl, by rw [add_block]; exact ho, All2.take n (All2.drop off hr), fun j c hj => ?_⟩
      rw [add_add]
      exact hcell _ _ (piece_get hr off n j hj)
  | lit ty l => exact ⟨h.1, .inr ⟨rfl, h.2⟩⟩
  | ptr d o => exact ⟨h, rfl⟩
  | elt d i => exact ⟨h, rfl⟩
  | dead => exact ⟨h, rfl⟩
  | undef => exact ⟨h, rfl⟩
  | t ty y => cases ty <;> first | exact ⟨h, rfl⟩ | exact ⟨h, .inl rfl⟩
  | tup ty y => exact ⟨h, rfl⟩
  | bp p d => exact ⟨h, rfl⟩
  | nq p => exact ⟨h, rfl⟩
  | cell ty y => exact ⟨h, rfl⟩
  | glob g => exact ⟨h, rfl⟩
theorem MR_head {own : Nat → Prop} {G : Gh} {m : Nat → MB} {d : Nat} {app : Bool} {ty : Ty} {l : List ty.D} (h : MR w own G m d) (hm : m d = .own app ty l) : ∃ ao cap, G.β d = .slice ao (List.length l) cap ∧ List.length l ≤ cap := by
  unfold MR at h; rw [hm] at h; simp only at h
  rcases h with ⟨h, hl, _⟩ | ⟨g, e, cap, css, post, h, _, _, hc, _⟩
  · subst hl; exact ⟨none, 0, h, Nat.le_refl _⟩
  · exact ⟨_, cap, h, hc⟩
theorem flat_AR {own : Nat → Prop} {G : Gh} {m : Nat → MB} (M : ∀ d, MR w own G m d) {x : AV × MB} {v : Value} {l : List AV} (hl : flat x = some l) (h : LR w own G m x v) :
    All2 (AR w own G.β m) l v.cells.toList ∧ ∀ c ∈ v.cells.toList, c.oneCell' = true := by
  obtain ⟨x, b⟩ := x
  obtain ⟨h1, h2⟩ := h
  unfold flat at hl
  simp only at hl h1 h2
  split at hl
  · obtain rfl := Option.some.inj hl
    exact ⟨cellsOf_AR h1.1, R_one h1.1⟩
  · obtain rfl := Option.some.inj hl
    simp only [AR] at h1; subst h1
    exact ⟨⟨rfl, trivial⟩, by simp [Value.cells, Value.oneCell']⟩
  · rename_i d app ty l'
    obtain rfl := Option.some.inj hl
    simp only at h2
    obtain ⟨ao, cap, hb, _⟩ := MR_head (M d) h2.symm
    have hv : v = G.β d := by simp only [AR] at h1; rw [← h2] at h1; exact h1
    have h3 : v.cells = #[v] := cells_of_one (by rw [hv, hb]; rfl)
    rw [h3]
    refine ⟨⟨h1, trivial⟩, ?_⟩
    intro c hc
    simp at hc; subst hc; rw [hv, hb]; rfl
  · rename_i d o l'
    obtain rfl := Option.some.inj hl
    simp only at h2
    have hv : ∃ a, v = .pointer (some a) := by
      simp only [AR] at h1; rw [← h2] at h1
      obtain ⟨a, _, _, rfl⟩ := h1
      exact ⟨_, rfl⟩
    obtain ⟨a, rfl⟩ := hv
    exact ⟨⟨h1, trivial⟩, by simp [Value.cells, Value.oneCell']⟩
  · cases hl

/-! ### One type into another -/
theorem coD_R : ∀ {a b : Ty} {x : a.D} {y : b.D} {cs : List Value}, coD a b x = some y → R w own a x cs → R w own b y cs := by
  intro a
  induction a with
  | int j => intro b x y cs h hr; cases b <;> simp only [coD] at h <;> first | (cases h; done) | skip
             rename_i k
             cases hk : decide (j = k) <;> rw [hk] at h
             · cases h
             · have := of_decide_eq_true hk; subst this; obtain rfl := Option.some.inj h; exact hr
  | bool => intro b x y cs h hr; cases b <;> simp only [coD] at h <;> first | (cases h; done) | (obtain rfl := Option.some.inj h; exact hr) | exact hr
  | str => intro b x y cs h hr; cases b <;> simp only [coD] at h <;> first | (cases h; done) | (obtain rfl := Option.some.inj h; exact hr) | exact hr
  | any => intro b x y cs h hr; cases b <;> simp only [coD] at h <;> first | (cases h; done) | (obtain rfl := Option.some.inj h; exact hr) | exact hr
  | nil =>
    intro b x y cs h hr
    cases b <;> simp only [coD] at h <;> first | (cases h; done) | skip
    · exact hr
    · obtain rfl := Option.some.inj h
      simp only [R] at hr ⊢
      subst hr
      exact ⟨none, 0, rfl, Nat.le_refl _, .inl trivial⟩
  | lst a ih =>
    intro b x y cs h hr
    cases b <;> simp only [coD] at h <;> first | (cases h; done) | skip
    rename_i b
    split at h
    · rename_i e; subst e; obtain rfl := Option.some.inj h; exact hr
    · cases h
  | pair a1 a2 ih1 ih2 =>
    intro b x y cs h hr
    cases b <;> simp only [coD] at h <;> first | (cases h; done) | skip
    split at h
    · rename_i u v e1 e2
      obtain rfl := Option.some.inj h
      simp only [R] at hr ⊢
      obtain ⟨c1, c2, rfl, h1, h2⟩ := hr
      exact ⟨c1, c2, rfl, ih1 e1 h1, ih2 e2 h2⟩
    · cases h
  | agg a ih =>
    intro b x y cs h hr
    cases b <;> simp only [coD] at h <;> first | (cases h; done) | skip
    simp only [R] at hr ⊢
    exact ih h hr
theorem coD_VR {a b : Ty} {x : a.D} {y : b.D} {v : Value} (h : coD a b x = some y) (hr : VR w own a x v) : VR w own b y v := by
  refine ⟨coD_R h hr.1, ?_⟩
  have h2 := hr.2
  cases a <;> cases b <;> simp only [coD] at h <;> first | (cases h; done) | exact h2 | exact h2.elim

/-! ### Rows as plain values, for who takes them -/
/-- What 'own'' may not hold: the blocks of the rows told. -/
def Free (β : Nat → Value) (m : Nat → MB) (own' : Nat → Prop) (ds : List Nat) : Prop := ∀ d ∈ ds, ∀ g, blk β m d = some g → ¬ own' g
theorem Free.sub {β : Nat → Value} {m : Nat → MB} {own' : Nat → Prop} {ds es : List Nat} (h : Free β m own' es) (hs : ∀ d ∈ ds, d ∈ es) : Free β m own' ds := fun d hd => h d (hs d hd)
theorem own_cells {w : World} {g : Nat} {e : TypeId} {pre mid post : List Value} (h : w.heap[g]? = some (.cells (pre ++ mid ++ post).toArray e (0, 0))) (j : Nat) {c : Value} (hj : mid[j]? = some c) :
    w.cell? ((⟨g, pre.length, none⟩ : Addr).add j) = some c := by
  have hj' : j < mid.length := by
    rcases Nat.lt_or_ge j mid.length with h | h
    · exact h
    · rw [List.getElem?_eq_none h] at hj; cases hj
  have : (⟨g, pre.length, none⟩ : Addr).add j = ⟨g, pre.length + j, none⟩ := by unfold Addr.add; split <;> simp_all
  rw [this, cell_of_row w g _ _ e (0, 0) h]
  simp only [List.getElem?_toArray, List.append_assoc]
  rw [List.getElem?_append_right (by omega), List.getElem?_append_left (by omega)]
  simpa using hj
/-- A row of one's own, read as a plain list by who does not take its block for owned. -/
theorem row_R {own own' : Nat → Prop} {G : Gh} {m : Nat → MB} {d : Nat} {app : Bool} {ty : Ty} {l : List ty.D} (M : MR w own G m d) (hm : m d = .own app ty l)
    (hsub : ∀ g, own' g → own g) (hfree : ∀ g, blk G.β m d = some g → ¬ own' g) : R w own' (.lst ty) l [G.β d] := by
  have A : Agree w w own own' := ⟨fun _ _ _ => rfl, fun g _ h => hsub g h⟩
  unfold MR at M; rw [hm] at M; simp only at M
  simp only [R]
  rcases M with ⟨hb, rfl, _⟩ | ⟨g, e, cap, css, post, hb, hh, hr, hc, _⟩
  · exact ⟨none, 0, by rw [hb]; rfl, Nat.le_refl _, .inl rfl⟩
  · refine ⟨_, cap, by rw [hb], hc, .inr ⟨_, css, rfl, hfree g (by unfold blk; rw [hm, hb]; rfl), hr.mono fun _ _ => R_mono A, fun j c hj => own_cells hh j hj⟩⟩
theorem view_R {own own' : Nat → Prop} {G : Gh} {m : Nat → MB} {d off n : Nat} {app : Bool} {ty : Ty} {l : List ty.D} {v : Value} (M : MR w own G m d) (hm : m d = .own app ty l) (h : AR w own G.β m (.view d off n) v)
    (hsub : ∀ g, own' g → own g) (hfree : ∀ g, blk G.β m d = some g → ¬ own' g) : R w own' (.lst ty) ((l.drop off).take n) [v] := by
  have hr := row_R M hm hsub hfree
  simp only [AR, hm] at h
  obtain ⟨hle, cap, hcap, rfl⟩ := h
  simp only [R] at hr ⊢
  obtain ⟨ao, cap0, hβ, hc0, hM⟩ := hr
  have hβ' : G.β d = .slice ao (List.length l) cap0 := by simpa using hβ
  have hlen : ((l.drop off).take n).length = n := by simp; omega
  refine ⟨_, cap, by rw [hlen], by rw [hlen]; exact hcap, ?_⟩
  by_cases hn : n = 0
  · subst hn; exact .inl (by simp)
  rcases hM with hM | ⟨a, css, rfl, ho, hr, hcell⟩
  · subst hM; simp at hle; omega
  · refine .inr ⟨a.add (off * ty.n), (css.drop off).take n, by rw [hβ']; rfl, by rw [add_block]; exact ho, All2.take n (All2.drop off hr), fun j c hj => ?_⟩
    rw [add_add]
    exact hcell _ _ (piece_get hr off n j hj)
theorem asOne_VR {own own' : Nat → Prop} {G : Gh} {m : Nat → MB} (M : ∀ d, MR w own G m d) {x : AV × MB} {v : Value} {ty : Ty} {y : ty.D} (h : LR w own G m x v) (hy : asOne x.1 x.2 ty = some y)
    (hsub : ∀ g, own' g → own g) (hfree : Free G.β m own' (rowsOf [x.1])) : VR w own' ty y v := by
  have A : Agree w w own own' := ⟨fun _ _ _ => rfl, fun g _ h => hsub g h⟩
  obtain ⟨x, b⟩ := x
  obtain ⟨h1, h2⟩ := h
  simp only at h1 h2 hy hfree
  unfold asOne at hy
  split at hy
  · exact coD_VR hy (VR_mono A h1)
  · split at hy
    · obtain rfl := Option.some.inj hy
      simp only [AR] at h1; subst h1
      exact VR_cell (by simp [R]) (by simp) (by simp)
    · cases hy
  · rename_i d
    split at hy
    · rename_i t app a l
      split at hy
      · rename_i e; subst e; obtain rfl := Option.some.inj hy
        simp only at h2
        have hv : v = G.β d := by simp only [AR] at h1; rw [← h2] at h1; exact h1
        subst hv
        exact VR_cell (row_R (M d) h2.symm hsub (hfree d (by simp [rowsOf]))) (by simp) (by simp)
      · cases hy
    · cases hy
  · rename_i d off n
    split at hy
    · rename_i t app a l
      split at hy
      · rename_i e; subst e; obtain rfl := Option.some.inj hy
        simp only at h2
        exact VR_cell (view_R (M d) h2.symm h1 hsub (hfree d (by simp [rowsOf]))) (by simp) (by simp)
      · cases hy
    · cases hy
  · cases hy
theorem rowsOf_cons (x : AV) (l : List AV) : ∀ d ∈ rowsOf [x], d ∈ rowsOf (x :: l) := by
  intro d hd
  cases x <;> simp [rowsOf] at hd ⊢ <;> exact .inl hd
theorem rowsOf_tail (x : AV) (l : List AV) : ∀ d ∈ rowsOf l, d ∈ rowsOf (x :: l) := by
  intro d hd
  cases x <;> simp [rowsOf] at hd ⊢ <;> first | exact hd | exact .inr hd
/-- Arguments: values, one by one. -/
def ArgsR (w : World) (own : Nat → Prop) : (ty : Ty) → ty.D → List Value → Prop
  | .nil, _, vs => vs = []
  | .pair a b, x, vs => ∃ v r, vs = v :: r ∧ VR w own a x.1 v ∧ ArgsR w own b x.2 r
  | t, x, vs => ∃ v, vs = [v] ∧ VR w own t x v
theorem ArgsR_one {own : Nat → Prop} {ty : Ty} {x : ty.D} {v : Value} (h : VR w own ty x v) (hn : ty ≠ .nil) (hp : ∀ a b, ty ≠ .pair a b) : ArgsR w own ty x [v] := by
  cases ty <;> first | exact absurd rfl hn | exact absurd rfl (hp _ _) | exact ⟨v, rfl, h⟩
theorem asArgs_R {own own' : Nat → Prop} {G : Gh} {m : Nat → MB} (M : ∀ d, MR w own G m d) {st : Look} {ρ : Operand → Value} (h : ∀ x, LR w own G m (st x) (ρ x)) (hsub : ∀ g, own' g → own g) :
    ∀ (l : List Operand) {ty : Ty} {y : ty.D}, asArgs st l ty = some y → Free G.β m own' (rowsOf (l.map fun x => (st x).1)) → ArgsR w own' ty y (l.map ρ)
  | [], ty, y, hy, _ => by
    unfold asArgs at hy
    cases ty <;> first | rfl | cases hy
  | [x], ty, y, hy, hf => by
    unfold asArgs at hy
    split at hy
    · cases hy
    · rename_i hn
      have hv := asOne_VR M (h x) hy hsub hf
      refine ArgsR_one hv (fun e => by subst e; simp [Ty.isNil] at hn) (fun a b e => ?_)
      subst e
      exact hv.2
  | x :: z :: r, ty, y, hy, hf => by
    unfold asArgs at hy
    cases ty <;> first | (cases hy; done) | skip
    rename_i a b
    simp only at hy
    split at hy
    · rename_i u v e1 e2
      obtain rfl := Option.some.inj hy
      exact ⟨_, _, rfl, asOne_VR M (h x) e1 hsub (hf.sub (rowsOf_cons _ _)), asArgs_R M h hsub (z :: r) e2 (hf.sub (rowsOf_tail _ _))⟩
    · cases hy
end Go.Proofs.Yteidggfjcanbjaa.E
