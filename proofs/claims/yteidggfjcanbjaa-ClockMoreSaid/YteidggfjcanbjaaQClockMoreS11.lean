/- Each operation does what the evaluator says, 6: pieces, conversions, builtins. -/
import Derived.Test.YteidggfjcanbjaaQClockMoreS10
import Derived.Lib.ConvBytes
namespace Go.Proofs.Yteidggfjcanbjaa.E
open Go Go.RowKit
set_option linter.unusedVariables false
set_option linter.unusedSimpArgs false

variable {P : Program} {X : Nat → Prop} {F : Root} {w0 : World} {n : Nat} {G : Gh} {st : St} {a : Act} {w : World} {o : Oper}

theorem ok_index (E : EnvR X F w0 n G st a w) {T : TypeId} {x i : Operand} (ho : o.op = .index T x i) {Γ : Ctx} (ht : (Γ.ty T).ok P T) : OpOK P X G st o a w (evOp Γ o st.look) := by
  unfold evOp; rw [ho]; simp only
  split
  · rename_i k j s hi hti hx
    obtain ⟨j, rfl⟩ : ∃ j' : Int, j' = j := ⟨j, rfl⟩
    obtain ⟨s, rfl⟩ : ∃ s' : ByteArray, s' = s := ⟨s, rfl⟩
    rw [hti] at ht
    intro h0 h1
    replace h0 : (0 : Int) ≤ j := h0
    replace h1 : j < (s.size : Int) := h1
    have hlt : j.toNat < s.size := by omega
    refine put_ok (x := .int .u8 (byteAt s j)) ?_ (int_VR _ _ _ _)
    have hb : s[j.toNat]? = some s[j.toNat] := by simp [hlt]
    have hd : s.data.toList.getD j.toNat 0 = s[j.toNat] := by
      have : j.toNat < s.data.size := hlt
      simp only [List.getD, Array.getElem?_toList, Array.getElem?_eq_getElem this]; rfl
    simp only [byteAt, hd]
    simp [execOp, ho, look_int E hi, VR_str (look_t E hx), Instr.index, asIntOf, run_underlying ht.1, h0, hlt]
  · trivial
theorem run_bound {k : IntKind} {j : Int} {y : Nat} {code : BoundsCode} (h0 : 0 ≤ j) (h1 : j ≤ (y : Int)) (w : World) : (Instr.sliceBound (.int k j) y code).run P w = .ok j.toNat w := by
  simp [Instr.sliceBound, asIntOf, h0, h1]
/-- The bounds that a piece is cut at. -/
def loOf : Option Int → Nat
  | none => 0
  | some k => k.toNat
def hiOf (len : Nat) : Option Int → Nat
  | none => len
  | some k => k.toNat
/-- What the tests of 'cut' have found. -/
def CutOK (len : Nat) (l h : Option Int) (lo hi : Option Value) : Prop := loOf l ≤ hiOf len h ∧ hiOf len h ≤ len ∧
  (match l, lo with | none, none => True | some k, some v => 0 ≤ k ∧ ∃ kk, v = .int kk k | _, _ => False) ∧
  (match h, hi with | none, none => True | some k, some v => 0 ≤ k ∧ ∃ kk, v = .int kk k | _, _ => False)
theorem ok_cut (E : EnvR X F w0 n G st a w) {len : Nat} {lo hi : Option Operand} {K : Option Int → Option Int → Res} (h : ∀ l h, CutOK len l h (lo.map a.eval) (hi.map a.eval) → OpOK P X G st o a w (K l h)) : OpOK P X G st o a w (cut st.look len lo hi K) := by
  unfold cut
  split
  · exact h none none ⟨Nat.zero_le _, Nat.le_refl _, trivial, trivial⟩
  · rename_i y
    split
    · rename_i k j hj
      obtain ⟨j, rfl⟩ : ∃ j' : Int, j' = j := ⟨j, rfl⟩
      intro h0 h1
      replace h0 : (0 : Int) ≤ j := h0
      replace h1 : j ≤ (len : Int) := h1
      refine h none (some j) ⟨Nat.zero_le _, ?_, trivial, h0, k, look_int E hj⟩
      simp only [hiOf]; omega
    · trivial
  · rename_i y
    split
    · rename_i k j hj
      obtain ⟨j, rfl⟩ : ∃ j' : Int, j' = j := ⟨j, rfl⟩
      intro h0 h1
      replace h0 : (0 : Int) ≤ j := h0
      replace h1 : j ≤ (len : Int) := h1
      refine h (some j) none ⟨?_, Nat.le_refl _, ⟨h0, k, look_int E hj⟩, trivial⟩
      simp only [hiOf, loOf]; omega
    · trivial
  · rename_i y z
    split
    · rename_i k j k' j' hj hj'
      obtain ⟨j, rfl⟩ : ∃ i : Int, i = j := ⟨j, rfl⟩
      obtain ⟨j', rfl⟩ : ∃ i : Int, i = j' := ⟨j', rfl⟩
      intro h0 h1 h2 h3
      replace h0 : (0 : Int) ≤ j' := h0
      replace h1 : j' ≤ (len : Int) := h1
      replace h2 : (0 : Int) ≤ j := h2
      replace h3 : j ≤ j' := h3
      refine h (some j) (some j') ⟨?_, ?_, ⟨h2, k, look_int E hj⟩, h0, k', look_int E hj'⟩ <;> simp only [hiOf, loOf] <;> omega
    · trivial
theorem run_bounds {isSlice : Bool} {len cap : Nat} (hlc : len ≤ cap) {l h : Option Int} {lo hi : Option Value} (hc : CutOK len l h lo hi) (w : World) :
    (Instr.sliceBounds isSlice len cap lo hi none).run P w = .ok (loOf l, hiOf len h, cap) w := by
  obtain ⟨h1, h2, h3, h4⟩ := hc
  cases l with
  | none => cases lo with
    | some v => exact h3.elim
    | none =>
      cases h with
      | none => cases hi with
        | some v => exact h4.elim
        | none => simp [Instr.sliceBounds, loOf, hiOf]
      | some k => cases hi with
        | none => exact h4.elim
        | some v =>
          obtain ⟨h0, kk, rfl⟩ := h4
          simp only [hiOf] at h2
          simp [Instr.sliceBounds, loOf, hiOf, run_bound (P := P) (k := kk) h0 (show k ≤ ((cap : Nat) : Int) by omega)]
  | some q => cases lo with
    | none => exact h3.elim
    | some v =>
      obtain ⟨h5, kk', rfl⟩ := h3
      cases h with
      | none => cases hi with
        | some v => exact h4.elim
        | none =>
          simp only [hiOf, loOf] at h1
          simp [Instr.sliceBounds, loOf, hiOf, run_bound (P := P) (k := kk') h5 (show q ≤ ((len : Nat) : Int) by omega)]
      | some k => cases hi with
        | none => exact h4.elim
        | some v =>
          obtain ⟨h0, kk, rfl⟩ := h4
          simp only [hiOf, loOf] at h1 h2
          simp [Instr.sliceBounds, loOf, hiOf, run_bound (P := P) (k := kk) h0 (show k ≤ ((cap : Nat) : Int) by omega), run_bound (P := P) (k := kk') h5 (show q ≤ ((k.toNat : Nat) : Int) by omega)]
theorem run_sliceAt {T e : TypeId} {i : TypeInfo} (ht : P.underlying T = some (.slice e)) (hi : P.info? e = some i) {ao : Option Addr} {len cap : Nat} (hlc : len ≤ cap) {l h : Option Int} {lo hi : Option Value} (hc : CutOK len l h lo hi) (w : World) :
    (Instr.sliceAt T (.slice ao len cap) lo hi none).run P w = .ok (.slice (if cap = loOf l then ao else ao.map (·.add (loOf l * i.size))) (hiOf len h - loOf l) (cap - loOf l)) w := by
  simp [Instr.sliceAt, Instr.slice, run_underlying ht, run_bounds hlc hc, run_sizeOf ‹P.info? e = some i›]
theorem run_sliceAt_str {T : TypeId} (ht : P.underlying T = some .string) {s : ByteArray} {l h : Option Int} {lo hi : Option Value} (hc : CutOK s.size l h lo hi) (w : World) :
    (Instr.sliceAt T (.string s) lo hi none).run P w = .ok (.string (s.extract (loOf l) (hiOf s.size h))) w := by
  simp [Instr.sliceAt, Instr.slice, run_underlying ht, run_bounds (Nat.le_refl _) hc]
theorem slice_R {own : Nat → Prop} {t : Ty} {l : List t.D} {ao : Option Addr} {cap : Nat} (h : R w own (.lst t) l [.slice ao (List.length l) cap]) {k q : Nat} (hk : k ≤ q) (hq : q ≤ List.length l) :
    R w own (.lst t) ((l.drop k).take (q - k)) [.slice (if cap = k then ao else ao.map (·.add (k * t.n))) (q - k) (cap - k)] := by
  simp only [R] at h ⊢
  obtain ⟨ao', cap', he, hc, hl⟩ := h
  obtain ⟨rfl, rfl⟩ : ao = ao' ∧ cap = cap' := by simpa using he
  have hlen : ((l.drop k).take (q - k)).length = q - k := by simp; omega
  refine ⟨_, _, by rw [hlen], by rw [hlen]; omega, ?_⟩
  by_cases hz : q - k = 0
  · exact .inl (List.eq_nil_of_length_eq_zero (by rw [hlen, hz]))
  rcases hl with hl | ⟨ad, css, rfl, hno, hr, hcell⟩
  · subst hl; simp at hq; omega
  · rw [if_neg (by omega)]
    refine .inr ⟨ad.add (k * t.n), (css.drop k).take (q - k), rfl, by rw [add_block]; exact hno, All2.take _ (All2.drop _ hr), fun j c hj => ?_⟩
    rw [add_add]
    exact hcell _ _ (piece_get hr k (q - k) j hj)
theorem ok_slice_run {T : TypeId} {x : Operand} {lo hi : Option Operand} (ho : o.op = .slice T x lo hi none) {v : Value} (h : (Instr.sliceAt T (a.eval x) (lo.map a.eval) (hi.map a.eval) none).run P w = .ok v w) : (execOp a.eval o).run P w = .ok (.value v) w := by
  simp [execOp, ho, h]
theorem piece_eq {α : Type} (l : List α) (k q : Nat) : (l.drop k).take (q - k) = (l.take q).drop k := by
  rw [List.drop_take]
theorem ok_slice (E : EnvR X F w0 n G st a w) {T : TypeId} {x : Operand} {lo hi mx : Option Operand} (ho : o.op = .slice T x lo hi mx) {Γ : Ctx} (ht : (Γ.ty T).ok P T) : OpOK P X G st o a w (evOp Γ o st.look) := by
  unfold evOp; rw [ho]; simp only
  split
  · rename_i e ty0 size bytes hti
    rw [hti] at ht
    obtain ⟨t1, _, i, z, t2, t3, _⟩ := ht
    split
    · rename_i b ty l hx
      cases hd : decide (ty = ty0)
      · trivial
      obtain rfl := of_decide_eq_true hd
      refine ok_cut E fun k q hc => ?_
      have hv := VR_lst (look_t E hx)
      have hv' := hv
      simp only [R] at hv'
      obtain ⟨ao, cap, he, hcap, _⟩ := hv'
      have he : a.eval x = .slice ao (List.length l) cap := by simpa using he
      have hrun := run_sliceAt (ao := ao) t1 t2 hcap hc w
      have hp := slice_R (he ▸ hv) hc.1 hc.2.1
      rw [t3] at hrun
      unfold pieceL
      split <;> refine put_ok (ok_slice_run ho (by rw [he]; exact hrun)) (VR_cell (ty := .lst ty) ?_ (by simp) (by simp)) <;> simp only [loOf, hiOf] at hp ⊢
      · simpa using hp
      · simpa using hp
      · rw [piece_eq] at hp; simpa using hp
      · rw [piece_eq] at hp; exact hp
    · rename_i d app ty l h1 h2
      cases hd : decide (ty = ty0)
      · trivial
      obtain rfl := of_decide_eq_true hd
      refine ok_cut E fun k q hc => ?_
      have L := look_LR E x
      obtain ⟨L1, L2⟩ := L
      rw [h1] at L1 L2
      simp only at L2
      have hm : st.m d = .own app ty l := by rw [← L2]; exact h2
      have hx : a.eval x = G.β d := by simp only [AR, hm] at L1; exact L1
      obtain ⟨ao, cap, hβ, hcap⟩ := MR_head (E.mems d) hm
      have hrun := run_sliceAt (ao := ao) t1 t2 hcap hc w
      rw [t3] at hrun
      have hc1 := hc.1
      have hc2 := hc.2.1
      unfold pieceV
      split
      · refine put_ok (ok_slice_run ho (by rw [hx, hβ]; exact hrun)) ?_
        simp only [loOf, hiOf] at hc1 hc2 ⊢
        simp only [AR, hm]
        refine ⟨by omega, cap, by omega, ?_⟩
        rw [hβ]
        simp [headOf, add_zero]
      · rename_i k' q'
        intro hlt
        replace hlt : k' < q' := hlt
        refine put_ok (ok_slice_run ho (by rw [hx, hβ]; exact hrun)) ?_
        simp only [loOf, hiOf] at hc1 hc2 ⊢
        obtain ⟨_, _, hk0, hq0⟩ := hc
        have hk0 : 0 ≤ k' := by
          cases hlo : lo.map a.eval with
          | none => rw [hlo] at hk0; exact hk0.elim
          | some v => rw [hlo] at hk0; exact hk0.1
        simp only [AR, hm]
        refine ⟨by omega, cap - k'.toNat, by omega, ?_⟩
        have hne : ¬ cap = k'.toNat := by omega
        rw [hβ]
        simp only [hne, if_false]
        rfl
      · trivial
    · trivial
  · rename_i hti
    rw [hti] at ht
    split
    · rename_i s hx
      obtain ⟨s, rfl⟩ : ∃ s' : ByteArray, s' = s := ⟨s, rfl⟩
      refine ok_cut E fun k q hc => ?_
      have hv := VR_str (look_t E hx)
      have hrun := run_sliceAt_str ht.1 hc w
      unfold pieceS
      split <;> refine put_ok (ok_slice_run ho (by rw [hv]; exact hrun)) ?_ <;> simp only [loOf, hiOf]
      · rw [ByteArray.extract_zero_size]; exact str_VR _ _ _
      · exact str_VR _ _ _
      · exact str_VR _ _ _
      · exact str_VR _ _ _
    · trivial
  · trivial
end Go.Proofs.Yteidggfjcanbjaa.E
