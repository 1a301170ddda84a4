/- Structs of plain fields that are held against one another: what the program does is what the evaluator does. -/
import Derived.Test.YteidggfjcanbjaaQClockMoreS22
import Derived.Laws.StructEq
import Derived.ChangeKeysEq
namespace Go.Proofs.Yteidggfjcanbjaa.E
open Go Go.RowKit
set_option linter.unusedVariables false

section
variable {P : Program} {d : Nat} {xs ys : Array Value} {f : Field} {fs : List Field} {a b : Value} {r s : Bool} {w : World}
theorem eqf_last (hn : (f.name != "_") = true) (ha : (Go.part f.type xs f.offset).run P w = .ok a w) (hb : (Go.part f.type ys f.offset).run P w = .ok b w) (he : (Op.equalIn d f.type a b).run P w = .ok r w) : (Op.eqFields d xs ys [f]).run P w = .ok r w := by
  have hn' : f.name ≠ "_" := by simpa using hn
  simp only [Op.eqFields, if_pos hn', Sem.run_bind, ha, hb, he, Result.andThen_ok]
  cases r <;> simp
theorem eqf_cons (hn : (f.name != "_") = true) (ha : (Go.part f.type xs f.offset).run P w = .ok a w) (hb : (Go.part f.type ys f.offset).run P w = .ok b w) (he : (Op.equalIn d f.type a b).run P w = .ok r w) (hr : (Op.eqFields d xs ys fs).run P w = .ok s w) : (Op.eqFields d xs ys (f :: fs)).run P w = .ok (r && s) w := by
  have hn' : f.name ≠ "_" := by simpa using hn
  rw [Op.eqFields]
  simp only [if_pos hn', Sem.run_bind, ha, hb, he, Result.andThen_ok]
  cases r
  · simp
  · simpa using hr
end
def leafB (P : Program) (T : TypeId) (t : Ty) : Bool := match P.underlying T, t with
  | some (.int k), .int j => decide (k = j)
  | some .bool, .bool => true
  | some .string, .str => true
  | _, _ => false
def eqFieldsB (P : Program) : List Field → Nat → Ty → Bool
  | [f], o, t => (f.name != "_") && Nat.beq f.offset o && leafB P f.type t
  | f :: g :: r, o, .pair a b => (f.name != "_") && Nat.beq f.offset o && leafB P f.type a && eqFieldsB P (g :: r) (o + 1) b
  | _, _, _ => false
def eqOKB (P : Program) (t : TypeId) (ty : Ty) : Bool := !(P.eqGuardType P.depth t) && !(P.stoodInHeld t) && match P.underlying t with
  | some (.struct fs) => eqFieldsB P fs.toList 0 ty
  | _ => false
theorem dec_iff {p : Prop} (d : Decidable p) : @decide p d = true ↔ p := decide_eq_true_iff
theorem leaf_eq {P : Program} {T : TypeId} {t : Ty} (h : leafB P T t = true) {w : World} {own : Nat → Prop} {x y : t.D} {cs ds : List Value} (hx : R w own t x cs) (hy : R w own t y ds) (d : Nat) :
    ∃ a b, cs = [a] ∧ ds = [b] ∧ P.plainKey T = true ∧ (Op.equalIn (d + 1) T a b).run P w = .ok (@decide (eqP t x y) (eqD t x y)) w := by
  unfold leafB at h
  split at h
  · rename_i k j hu
    obtain rfl := of_decide_eq_true h
    simp only [R] at hx hy
    refine ⟨_, _, hx, hy, by simp [Program.plainKey, hu], ?_⟩
    rw [run_equalIn_int w d T k k x y hu]
    rfl
  · rename_i hu
    simp only [R] at hx hy
    refine ⟨_, _, hx, hy, by simp [Program.plainKey, hu], ?_⟩
    rw [run_equalIn_bool' w d T x y hu]
    rfl
  · rename_i hu
    simp only [R] at hx hy
    refine ⟨_, _, hx, hy, by simp [Program.plainKey, hu], ?_⟩
    rw [run_equalIn_string w d T x y hu]
    congr 1
    rw [Bool.eq_iff_iff]
    exact str_inj.trans (dec_iff (eqD .str x y)).symm
  · cases h
theorem at_drop {xs : Array Value} {o : Nat} {a : Value} {r : List Value} (h : xs.toList.drop o = a :: r) : xs[o]? = some a := by
  have : (xs.toList.drop o)[0]? = some a := by rw [h]; rfl
  rw [List.getElem?_drop] at this
  simpa using this
theorem fields_eq {P : Program} {d : Nat} {w : World} {own : Nat → Prop} {xs ys : Array Value} : ∀ {fs : List Field} {o : Nat} {t : Ty}, eqFieldsB P fs o t = true → ∀ {x y : t.D}, R w own t x (xs.toList.drop o) → R w own t y (ys.toList.drop o) →
    (Op.eqFields (d + 1) xs ys fs).run P w = .ok (@decide (eqP t x y) (eqD t x y)) w
  | [f], o, t, h, x, y, hx, hy => by
    have h : ((f.name != "_") && Nat.beq f.offset o && leafB P f.type t) = true := by
      cases t <;> exact h
    simp only [Bool.and_eq_true] at h
    obtain ⟨⟨hn, ho⟩, hl⟩ := h
    have ho := Nat.eq_of_beq_eq_true ho
    obtain ⟨a, b, ha, hb, hk, he⟩ := leaf_eq hl hx hy d
    exact eqf_last hn (run_part_plain w hk (by rw [ho]; exact at_drop ha)) (run_part_plain w hk (by rw [ho]; exact at_drop hb)) he
  | f :: g :: r, o, .pair u v, h, x, y, hx, hy => by
    unfold eqFieldsB at h
    simp only [Bool.and_eq_true] at h
    obtain ⟨⟨⟨hn, ho⟩, hl⟩, hr⟩ := h
    have ho := Nat.eq_of_beq_eq_true ho
    simp only [R] at hx hy
    obtain ⟨c1, c2, hc, hx1, hx2⟩ := hx
    obtain ⟨d1, d2, hd, hy1, hy2⟩ := hy
    obtain ⟨a, b, rfl, rfl, hk, he⟩ := leaf_eq hl hx1 hy1 d
    have e1 : xs.toList.drop (o + 1) = c2 := by
      have := congrArg (List.drop 1) hc
      rw [List.drop_drop] at this
      simpa using this
    have e2 : ys.toList.drop (o + 1) = d2 := by
      have := congrArg (List.drop 1) hd
      rw [List.drop_drop] at this
      simpa using this
    have ih := fields_eq (d := d) hr (by rw [e1]; exact hx2) (by rw [e2]; exact hy2)
    have := eqf_cons hn (run_part_plain w hk (by rw [ho]; exact at_drop hc)) (run_part_plain w hk (by rw [ho]; exact at_drop hd)) he ih
    rw [this]
    congr 1
    rw [Bool.eq_iff_iff, Bool.and_eq_true]
    exact (and_congr (dec_iff (eqD u x.1 y.1)) (dec_iff (eqD v x.2 y.2))).trans (dec_iff (eqD (.pair u v) x y)).symm
  | [], _, t, h, _, _, _, _ => by cases t <;> cases h
  | f :: g :: r, o, .int _, h, _, _, _, _ => by cases h
  | f :: g :: r, o, .bool, h, _, _, _, _ => by cases h
  | f :: g :: r, o, .str, h, _, _, _, _ => by cases h
  | f :: g :: r, o, .nil, h, _, _, _, _ => by cases h
  | f :: g :: r, o, .any, h, _, _, _, _ => by cases h
  | f :: g :: r, o, .lst _, h, _, _, _, _ => by cases h
  | f :: g :: r, o, .agg _, h, _, _, _, _ => by cases h
theorem eqOK_of {P : Program} {t : TypeId} {ty : Ty} (h : eqOKB P t ty = true) : EqOK P t ty := by
  unfold eqOKB at h
  simp only [Bool.and_eq_true, Bool.not_eq_true'] at h
  obtain ⟨⟨h1, h2⟩, h3⟩ := h
  refine ⟨h1, fun w own x y cs ds hx hy => ?_⟩
  split at h3
  · rename_i fs hu
    have hf : P.fieldsOf t = fs := by simp [Program.fieldsOf, hu]
    rw [run_equalIn_struct (P := P) w 9999 t cs ds (by rw [hf]; exact hu) h2, hf]
    exact fields_eq (d := 9998) h3 (by simpa using hx) (by simpa using hy)
  · cases h3
theorem eq_cons {P : Program} {t : TypeId} {ty : Ty} {rest : TypeId → Option Ty} (h : eqOKB P t ty = true) (hr : ∀ T u, rest T = some u → EqOK P T u) : ∀ T u, (bif Nat.beq T t then some ty else rest T) = some u → EqOK P T u := by
  intro T u hu
  cases hb : Nat.beq T t with
  | true =>
    rw [hb] at hu
    obtain rfl := Option.some.inj hu
    rw [Nat.eq_of_beq_eq_true hb]
    exact eqOK_of h
  | false => rw [hb] at hu; exact hr T u hu
end Go.Proofs.Yteidggfjcanbjaa.E
