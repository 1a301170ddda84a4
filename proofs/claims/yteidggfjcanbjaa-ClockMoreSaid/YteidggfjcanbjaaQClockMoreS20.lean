/- Types, by a program: what 'TI.ok' asks, looked at by the kernel. -/
import Derived.Test.YteidggfjcanbjaaQClockMoreS19
import Derived.KernelRfl
namespace Go.Proofs.Yteidggfjcanbjaa.E
open Go Go.RowKit
set_option linter.unusedVariables false
set_option linter.unusedSimpArgs false

variable {P : Program}

def isNilV : Value → Bool
  | .slice none 0 0 => true
  | _ => false
theorem isNilV_ok {v : Value} (h : isNilV v = true) : v = .slice none 0 0 := by
  unfold isNilV at h
  split at h
  · rfl
  · cases h
theorem empty_of_size {s : ByteArray} (h : s.size = 0) : s = ByteArray.empty := by
  cases s with
  | mk d =>
    have : d.size = 0 := h
    have := Array.eq_empty_of_size_eq_zero this
    subst this; rfl
/-- Is it a type's zero value, of one cell? -/
def zV (ty : Ty) (v : Value) : Bool := match ty with
  | .int k => match v with
    | .int k' n => decide (k' = k) && decide (n = 0)
    | _ => false
  | .bool => match v with
    | .bool b => !b
    | _ => false
  | .str => match v with
    | .string s => Nat.beq s.size 0
    | _ => false
  | .nil => isNilV v
  | .lst _ => isNilV v
  | _ => false
theorem zV_ok {ty : Ty} {v : Value} (h : zV ty v = true) (w : World) (own : Nat → Prop) : R w own ty ty.dflt [v] := by
  cases ty <;> simp only [zV] at h <;> first | (cases h; done) | skip
  · cases v <;> simp at h
    obtain ⟨rfl, rfl⟩ := h
    simp [R, Ty.dflt]
  · cases v <;> simp at h
    subst h
    simp [R, Ty.dflt]
  · cases v <;> simp only at h <;> first | (cases h; done) | skip
    have := empty_of_size (Nat.eq_of_beq_eq_true h)
    subst this
    simp [R, Ty.dflt]
  · have := isNilV_ok h
    subst this
    simp [R]
  · have := isNilV_ok h
    subst this
    simp only [R]
    exact ⟨none, 0, rfl, Nat.le_refl _, .inl rfl⟩
/-- Do cells begin with a type's zero value? What is left of them. -/
def zR : Ty → List Value → Option (List Value)
  | .pair a b, cs => match zR a cs with
    | some r => zR b r
    | none => none
  | .agg a, cs => zR a cs
  | t, cs => match cs with
    | [] => none
    | c :: r => match zV t c with
      | true => some r
      | false => none
theorem zR_ok : ∀ (ty : Ty) {cs r : List Value}, zR ty cs = some r → ∃ c1, cs = c1 ++ r ∧ ∀ w own, R w own ty ty.dflt c1 := by
  have one : ∀ (t : Ty) {cs r : List Value}, (match cs with | [] => none | c :: r => match zV t c with | true => some r | false => none) = some r → ∃ c1, cs = c1 ++ r ∧ ∀ w own, R w own t t.dflt c1 := by
    intro t cs r h
    cases cs with
    | nil => cases h
    | cons c cs =>
      simp only at h
      cases hz : zV t c with
      | false => rw [hz] at h; cases h
      | true =>
        rw [hz] at h
        obtain rfl := Option.some.inj h
        exact ⟨[c], rfl, fun w own => zV_ok hz w own⟩
  intro ty
  induction ty with
  | pair a b iha ihb =>
    intro cs r h
    simp only [zR] at h
    split at h
    · rename_i r1 h1
      obtain ⟨c1, rfl, p1⟩ := iha h1
      obtain ⟨c2, rfl, p2⟩ := ihb h
      exact ⟨c1 ++ c2, by simp, fun w own => ⟨c1, c2, rfl, p1 w own, p2 w own⟩⟩
    · cases h
  | agg a ih => intro cs r h; simp only [zR] at h; exact ih h
  | int k => intro cs r h; exact one _ h
  | bool => intro cs r h; exact one _ h
  | str => intro cs r h; exact one _ h
  | nil => intro cs r h; exact one _ h
  | any => intro cs r h; exact one _ h
  | lst t => intro cs r h; exact one _ h
def avB (x : AV) (v : Value) : Bool := match x with
  | .t (.int k) n => match v with
    | .int k' n' => decide (k' = k) && decide (n' = n)
    | _ => false
  | .t .bool b => match v with
    | .bool b' => b == b'
    | _ => false
  | .t .str s => match v with
    | .string s' => Nat.beq (ByteArray.size s) 0 && Nat.beq s'.size 0
    | _ => false
  | .t .nil _ => isNilV v
  | _ => false
theorem avB_ok {x : AV} {v : Value} (h : avB x v = true) (w : World) (own : Nat → Prop) (β : Nat → Value) (m : Nat → MB) : AR w own β m x v ∧ v.oneCell' = true := by
  cases x <;> simp only [avB] at h <;> first | (cases h; done) | skip
  rename_i t y
  cases t <;> simp only at h <;> first | (cases h; done) | skip
  · cases v <;> simp at h
    obtain ⟨rfl, rfl⟩ := h
    exact ⟨int_VR _ _ _ _, rfl⟩
  · cases v <;> simp at h
    subst h
    exact ⟨bool_VR _ _ _, rfl⟩
  · cases v <;> simp only at h <;> first | (cases h; done) | skip
    simp only [Bool.and_eq_true] at h
    have h1 := empty_of_size (Nat.eq_of_beq_eq_true h.1)
    have h2 := empty_of_size (Nat.eq_of_beq_eq_true h.2)
    subst h2
    exact ⟨by show VR _ _ .str y _; rw [h1]; exact str_VR _ _ _, rfl⟩
  · have := isNilV_ok h
    subst this
    exact ⟨VR_cell (ty := .nil) (by simp [R]) (by simp) (by simp), rfl⟩
def avsB : List AV → List Value → Bool
  | [], [] => true
  | x :: l, v :: r => avB x v && avsB l r
  | _, _ => false
theorem avsB_ok : ∀ {l : List AV} {vs : List Value}, avsB l vs = true → (∀ w own β m, All2 (AR w own β m) l vs) ∧ ∀ c ∈ vs, c.oneCell' = true
  | [], [], _ => ⟨fun _ _ _ _ => trivial, fun _ h => by cases h⟩
  | x :: l, v :: r, h => by
    simp only [avsB, Bool.and_eq_true] at h
    obtain ⟨h1, h2⟩ := avsB_ok h.2
    refine ⟨fun w own β m => ⟨(avB_ok h.1 w own β m).1, h1 w own β m⟩, fun c hc => ?_⟩
    rcases List.mem_cons.1 hc with rfl | hc
    · exact (avB_ok h.1 default (fun _ => False) (fun _ => undef) (fun _ => .none)).2
    · exact h2 c hc
def fldsB (P : Program) (size : Nat) : List Field → List (Nat × Nat) → Bool
  | [], [] => true
  | f :: fs, p :: ps => (match P.info? f.type with
    | some i => Nat.beq f.offset p.1 && Nat.beq i.size p.2 && Nat.blt 0 p.2 && Nat.ble (p.1 + p.2) size
    | none => false) && fldsB P size fs ps
  | _, _ => false
theorem fldsB_ok {size : Nat} : ∀ {fs : List Field} {ps : List (Nat × Nat)}, fldsB P size fs ps = true → fs.mapM (fun f => (P.info? f.type).map fun i => (f.offset, i.size)) = some ps ∧
    ∀ (k : Nat) (p : Nat × Nat), ps[k]? = some p → ∃ f fi, fs[k]? = some f ∧ f.offset = p.1 ∧ P.info? f.type = some fi ∧ fi.size = p.2 ∧ p.2 ≠ 0 ∧ p.1 + p.2 ≤ size
  | [], [], _ => ⟨rfl, fun k p h => by simp at h⟩
  | f :: fs, p :: ps, h => by
    simp only [fldsB, Bool.and_eq_true] at h
    obtain ⟨h1, h2⟩ := fldsB_ok h.2
    have h0 := h.1
    cases hi : P.info? f.type with
    | none => rw [hi] at h0; cases h0
    | some i =>
      rw [hi] at h0
      simp only [Bool.and_eq_true, Nat.blt_eq] at h0
      obtain ⟨⟨⟨a1, a2⟩, a3⟩, a4⟩ := h0
      have a1 := Nat.eq_of_beq_eq_true a1
      have a2 := Nat.eq_of_beq_eq_true a2
      have a4 := Nat.le_of_ble_eq_true a4
      refine ⟨?_, fun k q hq => ?_⟩
      · rw [List.mapM_cons, hi, h1]
        simp [a1, a2]
      · cases k with
        | zero =>
          simp at hq; subst hq
          exact ⟨f, i, rfl, a1, hi, a2, by omega, a4⟩
        | succ k => simpa using h2 k q (by simpa using hq)
def okB (P : Program) (t : TypeId) : TI → Bool
  | .unk => true
  | .plain => match P.underlying t, P.info? t with
    | some (.struct _), _ => false
    | some (.array _ _), _ => false
    | some _, some i => Nat.beq i.size 1
    | _, _ => false
  | .bool => match P.underlying t, P.info? t with
    | some .bool, some i => match i.zero with
      | some z => Nat.beq i.size 1 && (match z with | .bool b => !b | _ => false)
      | none => false
    | _, _ => false
  | .str => match P.underlying t, P.info? t with
    | some .string, some i => match i.zero with
      | some z => Nat.beq i.size 1 && (match z with | .string s => Nat.beq s.size 0 | _ => false)
      | none => false
    | _, _ => false
  | .int k => match P.underlying t, P.info? t with
    | some (.int k'), some i => match i.zero with
      | some z => Nat.beq i.size 1 && decide (k' = k) && (match z with | .int k'' n => decide (k'' = k) && decide (n = 0) | _ => false)
      | none => false
    | _, _ => false
  | .slice e ty _ _ => match P.underlying t, P.info? t, P.info? e with
    | some (.slice e'), some i, some j => match i.zero, j.zero with
      | some z, some y => Nat.beq e' e && Nat.beq i.size 1 && isNilV z && Nat.beq j.size ty.n && Nat.ble j.bytes 64 && (match zR ty y.cells.toList with | some [] => true | _ => false)
      | _, _ => false
    | _, _, _ => false
  | .arr e ty _ len => match P.underlying t, P.info? e with
    | some (.array len' e'), some i => Nat.beq len' len && Nat.beq e' e && Nat.beq i.size ty.n
    | _, _ => false
  | .struct fields size zero => match P.underlying t, P.info? t with
    | some (.struct fs), some i => match i.zero with
      | some (.agg z) => Nat.beq i.size size && avsB zero z.toList && Nat.beq z.size size && fldsB P size fs.toList fields
      | _ => false
    | _, _ => false
theorem okB_ok {t : TypeId} {ti : TI} (h : okB P t ti = true) : ti.ok P t := by
  cases ti with
  | unk => trivial
  | plain =>
    simp only [okB] at h
    split at h
    · cases h
    · cases h
    · rename_i d i n1 n2 h1 h2
      exact ⟨d, i, h1, fun fs e => n1 fs e, fun k e he => n2 k e he, h2, Nat.eq_of_beq_eq_true h⟩
    · cases h
  | bool =>
    simp only [okB] at h
    split at h
    · rename_i i h1 h2
      split at h
      · rename_i z hz
        simp only [Bool.and_eq_true] at h
        obtain ⟨h3, h4⟩ := h
        cases z <;> simp at h4
        subst h4
        exact ⟨h1, i, h2, Nat.eq_of_beq_eq_true h3, hz⟩
      · cases h
    · cases h
  | str =>
    simp only [okB] at h
    split at h
    · rename_i i h1 h2
      split at h
      · rename_i z hz
        simp only [Bool.and_eq_true] at h
        obtain ⟨h3, h4⟩ := h
        cases z <;> simp only at h4 <;> first | (cases h4; done) | skip
        have := empty_of_size (Nat.eq_of_beq_eq_true h4)
        subst this
        exact ⟨h1, i, h2, Nat.eq_of_beq_eq_true h3, hz⟩
      · cases h
    · cases h
  | int k =>
    simp only [okB] at h
    split at h
    · rename_i k' i h1 h2
      split at h
      · rename_i z hz
        simp only [Bool.and_eq_true, decide_eq_true_eq] at h
        obtain ⟨⟨h3, rfl⟩, h4⟩ := h
        cases z <;> simp at h4
        obtain ⟨rfl, rfl⟩ := h4
        exact ⟨h1, i, h2, Nat.eq_of_beq_eq_true h3, hz⟩
      · cases h
    · cases h
  | slice e ty size bytes =>
    simp only [okB] at h
    split at h
    · rename_i e' i j h1 h2 h3
      split at h
      · rename_i z y hz hy
        simp only [Bool.and_eq_true] at h
        obtain ⟨⟨⟨⟨⟨q1, q2⟩, q3⟩, q4⟩, q5⟩, q6⟩ := h
        have q1 := Nat.eq_of_beq_eq_true q1
        have q3 := isNilV_ok q3
        subst q1; subst q3
        have q7 : zR ty y.cells.toList = some [] := by
          revert q6
          cases zR ty y.cells.toList with
          | none => intro h; cases h
          | some l => cases l <;> first | (intro h; cases h; done) | (intro _; rfl)
        obtain ⟨c1, hc, hR⟩ := zR_ok ty q7
        rw [List.append_nil] at hc
        refine ⟨h1, ⟨i, h2, Nat.eq_of_beq_eq_true q2, hz⟩, j, y, h3, Nat.eq_of_beq_eq_true q4, Nat.le_of_ble_eq_true q5, hy, fun w own => ?_⟩
        rw [hc]; exact hR w own
      · cases h
    · cases h
  | arr e ty size len =>
    simp only [okB] at h
    split at h
    · rename_i len' e' i h1 h2
      simp only [Bool.and_eq_true] at h
      obtain ⟨⟨q1, q2⟩, q3⟩ := h
      have q1 := Nat.eq_of_beq_eq_true q1
      have q2 := Nat.eq_of_beq_eq_true q2
      subst q1; subst q2
      exact ⟨h1, i, h2, Nat.eq_of_beq_eq_true q3⟩
    · cases h
  | struct fields size zero =>
    simp only [okB] at h
    split at h
    · rename_i fs i h1 h2
      split at h
      · rename_i z hz
        simp only [Bool.and_eq_true] at h
        obtain ⟨⟨⟨q1, q2⟩, q3⟩, q4⟩ := h
        obtain ⟨a1, a2⟩ := avsB_ok q2
        obtain ⟨b1, b2⟩ := fldsB_ok q4
        refine ⟨fs, i, z, h1, h2, Nat.eq_of_beq_eq_true q1, hz, a1, a2, Nat.eq_of_beq_eq_true q3, b1, fun k p hp => ?_⟩
        obtain ⟨f, fi, c1, c2⟩ := b2 k p hp
        exact ⟨f, fi, by simpa using c1, c2⟩
      · cases h
    · cases h

/-! ### Tables, laid out entry by entry -/
theorem ty_nil (T : TypeId) : TI.ok P T ((fun _ => TI.unk) T) := trivial
theorem ty_cons {i : TypeId} {x : TI} (h : okB P i x = true) {rest : TypeId → TI} (r : ∀ T, (rest T).ok P T) (T : TypeId) : TI.ok P T (tyIf i x rest T) := by
  unfold tyIf
  cases hb : Nat.beq T i with
  | true => have := Nat.eq_of_beq_eq_true hb; subst this; exact okB_ok h
  | false => exact r T
theorem fn_nil {gl : Glob} (f : FuncId) (e : FnE) (h : (none : Option FnE) = some e) : Ctr P gl f e := by cases h
theorem fn_cons {gl : Glob} {i : FuncId} {x : FnE} (h : Ctr P gl i x) {rest : FuncId → Option FnE} (r : ∀ f e, rest f = some e → Ctr P gl f e) (f : FuncId) (e : FnE) (he : (bif Nat.beq f i then some x else rest f) = some e) : Ctr P gl f e := by
  cases hb : Nat.beq f i with
  | true => rw [hb] at he; have := Nat.eq_of_beq_eq_true hb; subst this; obtain rfl := Option.some.inj he; exact h
  | false => rw [hb] at he; exact r f e he
/-- A function's own facts, looked at by the kernel. -/
def fnB (fn : Func) (k : Nat) : Bool := fn.body.isSome && !(fn.name == "runtime.NumGoroutine") && goodC fn.ntmps (bodyOf fn) && Nat.ble k fn.ntmps
theorem fnB_ok {f : FuncId} {fn : Func} {k : Nat} (h0 : P.funcs[f]? = some fn) (h : fnB fn k = true) : FnOK P f fn k := by
  simp only [fnB, Bool.and_eq_true, Bool.not_eq_true'] at h
  obtain ⟨⟨⟨q1, q2⟩, q3⟩, q4⟩ := h
  have q0 : fn.body.isNone = false := by cases hb : fn.body <;> rw [hb] at q1 <;> first | rfl | cases q1
  exact ⟨h0, q0, q2, q3, Nat.le_of_ble_eq_true q4⟩
end Go.Proofs.Yteidggfjcanbjaa.E
