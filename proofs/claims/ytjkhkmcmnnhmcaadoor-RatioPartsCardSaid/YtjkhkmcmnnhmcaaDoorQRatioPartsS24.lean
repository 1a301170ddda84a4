/- A table that a row lists: what the walk wants of it. -/
import Derived.Test.YtjkhkmcmnnhmcaaDoorQRatioPartsS23
import Derived.LaidMore
import Derived.Lay
import Derived.SevenTiedAt
import Derived.Stop.Joined
namespace Go.Proofs.YtjkhkmcmnnhmcaaDoor.E
open Go Go.RowKit Go.ChangeShapes Go.WideShapes Go.ChangeAt
set_option linter.unusedVariables false

theorem laid_table {P : Program} {name : String} {k : IntKind} {l : List Int} {t e : TypeId} {g : Nat} {W : World} (h : laidMet P [(name, .agg (l.map fun n => .lit (.int k n)))] W)
    (hg : P.globalNamed name = some g) (ht : (P.globals[g]?).map (·.type) = some t) (hu : P.underlying t = some (.array l.length e)) (he : P.underlying e = some (.int k)) (hc : P.cellsOf e = 1) (hct : P.cellsOf t = l.length) :
    ∃ (e' : TypeId) (cs : List Value) (fr : Nat × Nat), W.heap[g]? = some (.cells cs.toArray e' fr) ∧ cs = l.map (Value.int k) := by
  obtain ⟨ps, ⟨g', t', cs, fuel, p, q, hg', ht', hv, hd, _, _⟩, _, _⟩ := h
  obtain rfl := Option.some.inj (hg.symm.trans hg')
  obtain rfl := Option.some.inj (ht.symm.trans ht')
  obtain ⟨xs, m, _, ex, hlen, hl, hel⟩ := DataW.trod_array hu hd
  have hv2 := hv
  simp only [World.var?, hg, Option.bind_some] at hv2
  have hheap : ∃ (e' : TypeId) (fr : Nat × Nat), W.heap[g]? = some (.cells cs e' fr) := by
    split at hv2
    · rename_i c e' fr hh
      obtain rfl := Option.some.inj hv2
      exact ⟨_, _, hh⟩
    · cases hv2
  obtain ⟨e', fr, hh⟩ := hheap
  refine ⟨e', cs.toList, fr, by simpa using hh, ?_⟩
  refine List.ext_getElem? fun r => ?_
  by_cases hr : r < l.length
  · have hE := hel r hr
    rw [hc, Nat.mul_one, List.getElem?_eq_getElem (by omega : r < xs.length)] at hE
    obtain ⟨z, e1, e2, _⟩ := DataW.trod_int he hE
    have e3 : (xs.map (·.1)) = l.map fun n => .lit (.int k n) := (DataW.agg.inj (Prod.mk.inj ex).1).symm
    have e4 : (xs.map (·.1))[r]? = (l.map fun n => (DataW.lit (.int k n) : DataW Unit))[r]? := by rw [e3]
    rw [List.getElem?_map, List.getElem?_map, List.getElem?_eq_getElem (by omega : r < xs.length), List.getElem?_eq_getElem hr, e2] at e4
    have hz : z = l[r] := by
      simp only [Option.map_some, Option.some.injEq, DataW.lit.injEq, Lit.int.injEq, true_and] at e4
      exact e4
    have h0 : ((cs.toList.drop r).take 1)[0]? = some (.int k z) := by rw [e1]; rfl
    have h1 : cs.toList[r]? = some (.int k z) := by simpa using h0
    rw [h1, hz, List.getElem?_map, List.getElem?_eq_getElem hr]; rfl
  · rw [List.getElem?_eq_none (by rw [hlen, hct]; omega), List.getElem?_eq_none (by rw [List.length_map]; omega)]
end Go.Proofs.YtjkhkmcmnnhmcaaDoor.E
