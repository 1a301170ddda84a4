/- A struct that came in: four numbers, or five. -/
import Derived.Test.YteidggfjcanbjaaQClockMoreS23
import Derived.Lib.SmallJoins
namespace Go.Proofs.Yteidggfjcanbjaa.E
open Go Go.RowKit Go.ChangeShapes Go.WideShapes Go.ChangeAt
set_option linter.unusedVariables false
theorem open_i4 {H : Type} {enc : TypeId × Value → H} {P : Program} {W : World} {base : Nat} {spare : Nat → Bool} {held : Bool} {t : TypeId} {f0 f1 f2 f3 : Field} {k0 k1 k2 k3 : IntKind} {cs : Array Value} {d : DataW H} {ps : List MemPlace}
    (ht : P.underlying t = some (.struct #[f0, f1, f2, f3])) (hc : P.cellsOf t = 4) (o0 : f0.offset = 0) (o1 : f1.offset = 1) (o2 : f2.offset = 2) (o3 : f3.offset = 3)
    (c0 : P.cellsOf f0.type = 1) (c1 : P.cellsOf f1.type = 1) (c2 : P.cellsOf f2.type = 1) (c3 : P.cellsOf f3.type = 1)
    (u0 : P.underlying f0.type = some (.int k0)) (u1 : P.underlying f1.type = some (.int k1)) (u2 : P.underlying f2.type = some (.int k2)) (u3 : P.underlying f3.type = some (.int k3))
    (h : DataW.Trod enc P W base spare held t (.agg cs) d ps) : ∃ n0 n1 n2 n3, cs = #[.int k0 n0, .int k1 n1, .int k2 n2, .int k3 n3] ∧ (Lit.int k0 n0).wf = true ∧ (Lit.int k1 n1).wf = true ∧ (Lit.int k2 n2).wf = true ∧ (Lit.int k3 n3).wf = true := by
  obtain ⟨fuel, hf⟩ := h
  obtain ⟨y0, y1, y2, y3, n, _, hl, t0, t1, t2, t3⟩ := Go.Joins.trod_struct4 ht hf
  rw [o0, c0] at t0
  rw [o1, c1] at t1
  rw [o2, c2] at t2
  rw [o3, c3] at t3
  obtain ⟨n0, e0, _, w0⟩ := DataW.trod_int u0 t0
  obtain ⟨n1, e1, _, w1⟩ := DataW.trod_int u1 t1
  obtain ⟨n2, e2, _, w2⟩ := DataW.trod_int u2 t2
  obtain ⟨n3, e3, _, w3⟩ := DataW.trod_int u3 t3
  refine ⟨n0, n1, n2, n3, ?_, w0, w1, w2, w3⟩
  have hl2 : cs.toList.length = 4 := by rw [← hc, ← hl]; simp [Value.cells]
  obtain ⟨l⟩ := cs
  simp only [Value.cells] at e0 e1 e2 e3 hl2
  match l, hl2, e0, e1, e2, e3 with
  | [a, b', c, d'], _, e0, e1, e2, e3 =>
    simp at e0 e1 e2 e3
    rw [e0, e1, e2, e3]
theorem in_i4 {w : World} {own : Nat → Prop} {k0 k1 k2 k3 : IntKind} (n0 n1 n2 n3 : Int) : VR w own (.agg (.pair (.int k0) (.pair (.int k1) (.pair (.int k2) (.int k3))))) (n0, n1, n2, n3) (.agg #[.int k0 n0, .int k1 n1, .int k2 n2, .int k3 n3]) :=
  ⟨⟨[.int k0 n0], [.int k1 n1, .int k2 n2, .int k3 n3], rfl, rfl, [.int k1 n1], [.int k2 n2, .int k3 n3], rfl, rfl, [.int k2 n2], [.int k3 n3], rfl, rfl, rfl⟩, ⟨_, rfl⟩⟩
theorem open_i5 {H : Type} {enc : TypeId × Value → H} {P : Program} {W : World} {base : Nat} {spare : Nat → Bool} {held : Bool} {t : TypeId} {f0 f1 f2 f3 f4 : Field} {k0 k1 k2 k3 k4 : IntKind} {cs : Array Value} {d : DataW H} {ps : List MemPlace}
    (ht : P.underlying t = some (.struct #[f0, f1, f2, f3, f4])) (hc : P.cellsOf t = 5) (o0 : f0.offset = 0) (o1 : f1.offset = 1) (o2 : f2.offset = 2) (o3 : f3.offset = 3) (o4 : f4.offset = 4)
    (c0 : P.cellsOf f0.type = 1) (c1 : P.cellsOf f1.type = 1) (c2 : P.cellsOf f2.type = 1) (c3 : P.cellsOf f3.type = 1) (c4 : P.cellsOf f4.type = 1)
    (u0 : P.underlying f0.type = some (.int k0)) (u1 : P.underlying f1.type = some (.int k1)) (u2 : P.underlying f2.type = some (.int k2)) (u3 : P.underlying f3.type = some (.int k3)) (u4 : P.underlying f4.type = some (.int k4))
    (h : DataW.Trod enc P W base spare held t (.agg cs) d ps) : ∃ n0 n1 n2 n3 n4, cs = #[.int k0 n0, .int k1 n1, .int k2 n2, .int k3 n3, .int k4 n4] ∧ (Lit.int k0 n0).wf = true ∧ (Lit.int k1 n1).wf = true ∧ (Lit.int k2 n2).wf = true ∧ (Lit.int k3 n3).wf = true ∧ (Lit.int k4 n4).wf = true := by
  obtain ⟨fuel, hf⟩ := h
  obtain ⟨xs, n, _, _, hl, hlen, hg⟩ := DataW.trod_struct ht hf
  match xs, hlen with
  | [y0, y1, y2, y3, y4], _ =>
    have t0 : DataW.trod enc P W base spare held n f0.type (((Value.agg cs).cells.toList.drop f0.offset).take (P.cellsOf f0.type)) = some y0 := by simpa using hg 0 f0 rfl
    have t1 : DataW.trod enc P W base spare held n f1.type (((Value.agg cs).cells.toList.drop f1.offset).take (P.cellsOf f1.type)) = some y1 := by simpa using hg 1 f1 rfl
    have t2 : DataW.trod enc P W base spare held n f2.type (((Value.agg cs).cells.toList.drop f2.offset).take (P.cellsOf f2.type)) = some y2 := by simpa using hg 2 f2 rfl
    have t3 : DataW.trod enc P W base spare held n f3.type (((Value.agg cs).cells.toList.drop f3.offset).take (P.cellsOf f3.type)) = some y3 := by simpa using hg 3 f3 rfl
    have t4 : DataW.trod enc P W base spare held n f4.type (((Value.agg cs).cells.toList.drop f4.offset).take (P.cellsOf f4.type)) = some y4 := by simpa using hg 4 f4 rfl
    rw [o0, c0] at t0
    rw [o1, c1] at t1
    rw [o2, c2] at t2
    rw [o3, c3] at t3
    rw [o4, c4] at t4
    obtain ⟨n0, e0, _, w0⟩ := DataW.trod_int u0 t0
    obtain ⟨n1, e1, _, w1⟩ := DataW.trod_int u1 t1
    obtain ⟨n2, e2, _, w2⟩ := DataW.trod_int u2 t2
    obtain ⟨n3, e3, _, w3⟩ := DataW.trod_int u3 t3
    obtain ⟨n4, e4, _, w4⟩ := DataW.trod_int u4 t4
    refine ⟨n0, n1, n2, n3, n4, ?_, w0, w1, w2, w3, w4⟩
    have hl2 : cs.toList.length = 5 := by rw [← hc, ← hl]; simp [Value.cells]
    obtain ⟨l⟩ := cs
    simp only [Value.cells] at e0 e1 e2 e3 e4 hl2
    match l, hl2, e0, e1, e2, e3, e4 with
    | [a, b', c, d', e'], _, e0, e1, e2, e3, e4 =>
      simp at e0 e1 e2 e3 e4
      rw [e0, e1, e2, e3, e4]
theorem in_i5 {w : World} {own : Nat → Prop} {k0 k1 k2 k3 k4 : IntKind} (n0 n1 n2 n3 n4 : Int) : VR w own (.agg (.pair (.int k0) (.pair (.int k1) (.pair (.int k2) (.pair (.int k3) (.int k4)))))) (n0, n1, n2, n3, n4) (.agg #[.int k0 n0, .int k1 n1, .int k2 n2, .int k3 n3, .int k4 n4]) :=
  ⟨⟨[.int k0 n0], [.int k1 n1, .int k2 n2, .int k3 n3, .int k4 n4], rfl, rfl, [.int k1 n1], [.int k2 n2, .int k3 n3, .int k4 n4], rfl, rfl, [.int k2 n2], [.int k3 n3, .int k4 n4], rfl, rfl, [.int k3 n3], [.int k4 n4], rfl, rfl, rfl⟩, ⟨_, rfl⟩⟩
end Go.Proofs.Yteidggfjcanbjaa.E
