/- From an answer of the evaluator to a row of the seat: what comes in, what goes out. -/
import Derived.Test.YtlnbcpcnpofnoaaGreatDoorQCondMovesZS2
import Derived.ChangeOld
import Derived.OpenShut
import Derived.ProofKit
import Derived.ShutString
import Derived.SizedLaws
import Derived.WalkKit
import Derived.LaidMore
import Derived.Lay
import Derived.SevenTiedAt
import Derived.Stop.Joined
namespace Go.Proofs.YtlnbcpcnpofnoaaGreatDoor.E
open Go Go.RowKit Go.ChangeShapes Go.WideShapes Go.ChangeAt
set_option linter.unusedVariables false

theorem Grows.below {w w' : World} (h : Grows w w') : Below w.heap.size w w' := ⟨h.os, h.tape, h.output, h.size, fun k hk => h.heap k hk⟩
/-- A slice of whole numbers that came in: its cells up to the room that it has. -/
def IsRow (k : IntKind) (w : World) (a : Option Addr) (len cap : Nat) (zs : List Int) : Prop :=
  (a = none ∧ len = 0 ∧ cap = 0 ∧ zs = []) ∨
  ∃ x, a = some x ∧ len ≤ cap ∧ cap ≤ maxLen ∧ zs.length = cap ∧ (∀ i, i < zs.length → w.cell? (x.add i) = some (.int k (zs.getD i 0))) ∧ ∀ n ∈ zs, (Lit.int k n).wf = true
theorem all2_ints {w : World} {own : Nat → Prop} {k : IntKind} : ∀ (l : List Int), All2 (R w own (.int k)) l (l.map fun n => [Value.int k n])
  | [] => trivial
  | x :: l => ⟨by simp [R], all2_ints l⟩
theorem flat_ints {k : IntKind} (l : List Int) : (l.map fun n => [Value.int k n]).flatten = l.map (Value.int k) := by
  induction l with
  | nil => rfl
  | cons x l ih => simp [ih]
theorem VR_isrow {k : IntKind} {w : World} {a : Option Addr} {len cap : Nat} {zs : List Int} (h : IsRow k w a len cap zs) :
    VR w (fun _ => False) (.lst (.int k)) (zs.take len) (.slice a len cap) := by
  refine ⟨?_, by simp [Value.oneCell']⟩
  rcases h with ⟨rfl, rfl, rfl, rfl⟩ | ⟨x, rfl, hl, hm, hz, hc, hw⟩
  · simp [R, Value.cells]
  · have e : (zs.take len).length = len := by rw [List.length_take]; omega
    simp only [R]
    refine ⟨some x, cap, ?_, ?_, .inr ⟨x, (zs.take len).map fun n => [Value.int k n], rfl, fun h => h, all2_ints (w := w) (own := fun _ => False) _, fun j v hj => ?_⟩⟩
    · rw [show List.length (zs.take len) = len from e]; rfl
    · rw [show List.length (zs.take len) = len from e]; exact hl
    · rw [flat_ints, List.getElem?_map] at hj
      obtain ⟨n, hn, rfl⟩ := Option.map_eq_some_iff.1 hj
      have hj2 : j < zs.length := by
        have := (List.getElem?_eq_some_iff.1 hn).1
        rw [List.length_take] at this; omega
      rw [hc j hj2, List.getD_eq_getElem?_getD]
      rw [List.getElem?_take] at hn
      split at hn
      · rw [hn]; rfl
      · cases hn
theorem in_int {k : IntKind} {w : World} {own : Nat → Prop} (n : Int) : VR w own (.int k) n (.int k n) := ⟨by simp [R, Value.cells], by simp [Value.oneCell']⟩
theorem in_bool {w : World} {own : Nat → Prop} (b : Bool) : VR w own .bool b (.bool b) := ⟨by simp [R, Value.cells], by simp [Value.oneCell']⟩
theorem in_str {w : World} {own : Nat → Prop} (s : ByteArray) : VR w own .str s (.string s) := ⟨by simp [R, Value.cells], by simp [Value.oneCell']⟩
theorem law_calls {P : Program} {gl : Glob} {f : FuncId} {args : Ty} {Fn : args.D → M Bool} (h : Ctr P gl f (.plain args .bool false Fn)) {x : args.D} {w : World} {vs : List Value} (hL : LaidG gl w)
    (ha : ArgsR w (fun _ => False) args x vs) (hr : Fn x true) : Calls P f vs.toArray w fun e w' => e = .returned (.bool true) ∧ Below w.heap.size w w' :=
  (h.2 (fun _ => False) x true w vs hL (fun _ _ _ h => h) (fun _ h => h.elim) ha hr).mono fun e w' ⟨v, h1, h2, h3⟩ => ⟨by rw [h1, VR_bool h3], h2.below⟩
/-- A row's slice of whole numbers is no longer than its weight allows. -/
theorem sized_ints {H : Type} {enc : TypeId × Value → H} {P : Program} {W : World} {base : Nat} {spare : Nat → Bool} {held : Bool} {t e : TypeId} {k : IntKind} {a : Option Addr} {len cap : Nat} {d : DataW H} {ps : List MemPlace} {ts : List TypeId} {ds : List (DataW H)} {j : Nat}
    (hsz : (DataW.weightsEach P ts ds).all (· ≤ reachBytes) = true) (ht : ts[j]? = some t) (hd : ds[j]? = some d) (hu : P.underlying t = some (.slice e)) (he : P.underlying e = some (.int k)) (hc : P.cellsOf e = 1) {B : Nat} (hB : P.bytesOf e = B)
    (h : DataW.Trod enc P W base spare held t (.slice a len cap) d ps) : len * B ≤ 140737488351232 := by
  obtain ⟨fuel, hf⟩ := h
  rcases open_ints hu he hc hf with ⟨hcs, _⟩ | ⟨x, l, c, zs, hcs, _, hl, _, hz, hx, _, _⟩
  · simp [Value.cells] at hcs
    obtain ⟨rfl, rfl, rfl⟩ := hcs
    simp
  · simp [Value.cells] at hcs
    obtain ⟨rfl, rfl, rfl⟩ := hcs
    obtain ⟨hx, _⟩ := Prod.mk.inj hx
    subst hx
    have z := sized_slice hsz ht hd hu
    rw [hB] at z
    have hl2 : len ≤ zs.length := by
      rw [hz]
      split
      · exact hl
      · exact Nat.le_refl _
    have h1 : (lits (H := H) k (zs.take len)).length + (lits (H := H) k (zs.drop len)).length = zs.length := by
      simp [lits]
      omega
    rw [h1] at z
    exact Nat.le_trans (Nat.mul_le_mul_right _ hl2) z
theorem isrow_of {H : Type} {enc : TypeId × Value → H} {P : Program} {W : World} {base : Nat} {spare : Nat → Bool} {t e : TypeId} {k : IntKind} {a : Option Addr} {len cap : Nat} {d : DataW H} {ps : List MemPlace}
    (hu : P.underlying t = some (.slice e)) (he : P.underlying e = some (.int k)) (hc : P.cellsOf e = 1) (hsp : spare = fun _ => true)
    (h : DataW.Trod enc P W base spare true t (.slice a len cap) d ps) : ∃ zs, IsRow k W a len cap zs := by
  subst hsp
  obtain ⟨fuel, hf⟩ := h
  rcases open_ints hu he hc hf with ⟨hcs, _⟩ | ⟨x, l, c, zs, hcs, _, hl, hm, hz, _, hcell, hwz⟩
  · simp [Value.cells] at hcs
    obtain ⟨rfl, rfl, rfl⟩ := hcs
    exact ⟨[], .inl ⟨rfl, rfl, rfl, rfl⟩⟩
  · simp [Value.cells] at hcs
    obtain ⟨rfl, rfl, rfl⟩ := hcs
    exact ⟨zs, .inr ⟨_, rfl, hl, hm, by simpa using hz, hcell, hwz⟩⟩
theorem isrow_wf {k : IntKind} {w : World} {a : Option Addr} {len cap : Nat} {zs : List Int} (h : IsRow k w a len cap zs) : ∀ n ∈ zs.take len, (Lit.int k n).wf = true := by
  intro n hn
  rcases h with ⟨_, _, _, rfl⟩ | ⟨_, _, _, _, _, _, h⟩
  · simp at hn
  · exact h n (List.mem_of_mem_take hn)
theorem isrow_len {k : IntKind} {w : World} {a : Option Addr} {len cap : Nat} {zs : List Int} (h : IsRow k w a len cap zs) : (zs.take len).length = len := by
  rcases h with ⟨_, rfl, _, rfl⟩ | ⟨_, _, hl, _, hz, _, _⟩
  · rfl
  · rw [List.length_take]; omega
end Go.Proofs.YtlnbcpcnpofnoaaGreatDoor.E

/- A table that a row lists: what the walk wants of it. -/
namespace Go.Proofs.YtlnbcpcnpofnoaaGreatDoor.E
open Go Go.RowKit Go.ChangeShapes Go.WideShapes Go.ChangeAt
set_option linter.unusedVariables false

theorem glob_cons {i a : Nat} {v x : IntKind × List Int} {r : Option (IntKind × List Int)} (h : (bif Nat.beq i a then some v else r) = some x) : (i = a ∧ v = x) ∨ r = some x := by
  cases hb : Nat.beq i a with
  | true => rw [hb] at h; exact .inl ⟨Nat.eq_of_beq_eq_true hb, Option.some.inj h⟩
  | false => rw [hb] at h; exact .inr h
theorem laid_table {P : Program} {name : String} {k : IntKind} {l : List Int} {t e : TypeId} {g : Nat} {W : World} {rest : List (String × DataW Unit)} (h : laidMet P ((name, .agg (l.map fun n => .lit (.int k n))) :: rest) W)
    (hg : P.globalNamed name = some g) (ht : (P.globals[g]?).map (·.type) = some t) (hu : P.underlying t = some (.array l.length e)) (he : P.underlying e = some (.int k)) (hc : P.cellsOf e = 1) (hct : P.cellsOf t = l.length) :
    ∃ (e' : TypeId) (cs : List Value) (fr : Nat × Nat), W.heap[g]? = some (.cells cs.toArray e' fr) ∧ cs = l.map (Value.int k) := by
  obtain ⟨ps, ⟨g', t', cs, fuel, p, q, hg', ht', hv, hd, _, _⟩, _, _⟩ := h
  obtain rfl := Option.some.inj (hg.symm.trans hg')
  obtain rfl := Option.some.inj (ht.symm.trans ht')
  obtain ⟨xs, m, _, ex, hlen, hl, hel⟩ := DataW.trod_array hu hd
  have hv2 := hv
  simp only [World.var?, hg, Option.bind_some] at hv2
  have hheap : ∃ (e' : TypeId) (fr : Nat × Nat), W.heap[g]? = some (.cells cs e' fr) := by
    split at hv2
    · rename_i c e' fr hh
      obtain rfl := Option.some.inj hv2
      exact ⟨_, _, hh⟩
    · cases hv2
  obtain ⟨e', fr, hh⟩ := hheap
  refine ⟨e', cs.toList, fr, by simpa using hh, ?_⟩
  refine List.ext_getElem? fun r => ?_
  by_cases hr : r < l.length
  · have hE := hel r hr
    rw [hc, Nat.mul_one, List.getElem?_eq_getElem (by omega : r < xs.length)] at hE
    obtain ⟨z, e1, e2, _⟩ := DataW.trod_int he hE
    have e3 : (xs.map (·.1)) = l.map fun n => .lit (.int k n) := (DataW.agg.inj (Prod.mk.inj ex).1).symm
    have e4 : (xs.map (·.1))[r]? = (l.map fun n => (DataW.lit (.int k n) : DataW Unit))[r]? := by rw [e3]
    rw [List.getElem?_map, List.getElem?_map, List.getElem?_eq_getElem (by omega : r < xs.length), List.getElem?_eq_getElem hr, e2] at e4
    have hz : z = l[r] := by
      simp only [Option.map_some, Option.some.injEq, DataW.lit.injEq, Lit.int.injEq, true_and] at e4
      exact e4
    have h0 : ((cs.toList.drop r).take 1)[0]? = some (.int k z) := by rw [e1]; rfl
    have h1 : cs.toList[r]? = some (.int k z) := by simpa using h0
    rw [h1, hz, List.getElem?_map, List.getElem?_eq_getElem hr]; rfl
  · rw [List.getElem?_eq_none (by rw [hlen, hct]; omega), List.getElem?_eq_none (by rw [List.length_map]; omega)]
end Go.Proofs.YtlnbcpcnpofnoaaGreatDoor.E
