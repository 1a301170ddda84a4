/- Texts that the proof of NatAdds stands on, part 2. -/
import Derived.Test.YtcepdndhkidehaaWMore
import Derived.Test.YtcepdndhkidehaaWNEv
import Derived.Test.YtcepdndhkidehaaCNatAdds0
import Derived.Test.YtcepdndhkidehaaCNatAdds1
namespace Go.Proofs.Ytcepdndhkidehaa.PA
open Go.RowKit Go.Proofs.YtcepdndhkidehaaW.PrintWords Go.Proofs.YtcepdndhkidehaaW.PrintLast Go.Proofs.YtcepdndhkidehaaW.PrintMore
attribute [local go_sem] max2_int min2_int max_two min_two max_three min_three max_four min_four   -- for this text's walks alone
set_option linter.unusedVariables false
set_option linter.unusedSimpArgs false

/-! ### numerarylaw02_NatAdds: function 6 -/
def numerarylaw02_NatAdds.f (k : Nat) (l0 : List Int) (l1 : List Int) : Option (Bool) := (numerarylaw02_few.f l0).bind fun t493 => ((numerarylaw02_few.f l1).bind fun t496 => ((nat_Made.f k t493).bind fun t499 => ((nat_Made.f k t496).bind fun t502 => ((numeraryref02_Made.f k t493).bind fun t507 => ((numeraryref02_Made.f k t496).bind fun t510 => ((numeraryref02_Cmp.f k t507 t510).bind fun t513 => ((nat_Sub.f k t499 t502).bind fun bt514 => ((nat_Cmp.f k t499 t502).bind fun t519 => (if t519 = t513 then ((nat_Cmp.f k t502 t499).bind fun t520 => (if t520 = (wrap64 (-t513)) then (if (bt514.2 != (decide (t513 ≥ 0))) = true then (some false) else (if bt514.2 = true then ((numerarylaw02_wakes.f k).bind fun t521 => (if t521 = true then ((nat_Add.f k t499 t502).bind fun t522 => ((numerarylaw02_of.f k t522).bind fun t525 => ((numeraryref02_Add.f k t507 t510).bind fun t528 => ((numerarylaw02_same.f k t525 t528).bind fun t531 => (if t531 = true then ((numerarylaw02_of.f k bt514.1).bind fun t532 => ((numeraryref02_Sub.f k t507 t510).bind fun t535 => ((numerarylaw02_same.f k t532 t535).bind fun t538 => (some t538)))) else (some false)))))) else (some false))) else ((nat_Nat_Limbs.f bt514.1).bind fun t539 => (if (t539.length : Int) = 0 then ((numerarylaw02_wakes.f k).bind fun t542 => (if t542 = true then ((nat_Add.f k t499 t502).bind fun t543 => ((numerarylaw02_of.f k t543).bind fun t546 => ((numeraryref02_Add.f k t507 t510).bind fun t549 => ((numerarylaw02_same.f k t546 t549).bind fun t552 => (if t552 = true then (some true) else (some false)))))) else (some false))) else (some false))))) else (some false))) else (some false))))))))))
theorem numerarylaw02_NatAdds.mono : ∀ a0 a1 k, LeO (numerarylaw02_NatAdds.f k a0 a1) (numerarylaw02_NatAdds.f (k + 1) a0 a1) := by
  intro a0 a1 k
  unfold numerarylaw02_NatAdds.f
  repeat' first
      | (with_reducible exact nat_Add.mono _ _ _)
      | (with_reducible exact nat_Cmp.mono _ _ _)
      | (with_reducible exact nat_Made.mono _ _)
      | (with_reducible exact nat_Sub.mono _ _ _)
      | (with_reducible exact numerarylaw02_of.mono _ _)
      | (with_reducible exact numerarylaw02_same.mono _ _ _)
      | (with_reducible exact numerarylaw02_wakes.mono _)
      | (with_reducible exact numeraryref02_Add.mono _ _ _)
      | (with_reducible exact numeraryref02_Cmp.mono _ _ _)
      | (with_reducible exact numeraryref02_Made.mono _ _)
      | (with_reducible exact numeraryref02_Sub.mono _ _ _)
      | (with_reducible exact LeO.refl _)
      | (with_reducible exact LeO.none _)
      | (with_reducible refine LeO.ite ?_ ?_)
      | (with_reducible refine LeO.bind ?_ (fun _ => ?_))
      | exact nat_Add.mono _ _ _
      | exact nat_Cmp.mono _ _ _
      | exact nat_Made.mono _ _
      | exact nat_Sub.mono _ _ _
      | exact numerarylaw02_of.mono _ _
      | exact numerarylaw02_same.mono _ _ _
      | exact numerarylaw02_wakes.mono _
      | exact numeraryref02_Add.mono _ _ _
      | exact numeraryref02_Cmp.mono _ _ _
      | exact numeraryref02_Made.mono _ _
      | exact numeraryref02_Sub.mono _ _ _
      | exact LeO.none _
      | refine LeO.ite ?_ ?_
      | refine LeO.bind ?_ (fun _ => ?_)
set_option maxHeartbeats 8000000 in
set_option maxRecDepth 100000 in
theorem numerarylaw02_NatAdds.calls (k : Nat) (A0 : Option Addr) (c0 : Nat) (l0 : List Int) (A1 : Option Addr) (c1 : Nat) (l1 : List Int) (r : Bool) (w : World) (hr0 : Kd.C (Kd.int .u32) w A0 l0.length l0) (hc0 : l0.length ≤ c0) (hr1 : Kd.C (Kd.int .u32) w A1 l1.length l1) (hc1 : l1.length ≤ c1) (h : numerarylaw02_NatAdds.f k l0 l1 = some r) (hr_ : r = true) :
    Calls Try.prog 6 #[.slice A0 l0.length c0, .slice A1 l1.length c1] w fun e w' => e = .returned (.bool r) ∧ Below w.heap.size w w' := by
  have HR_ := Aside0.mk hr_
  clear hr_
  have hu25 := Try.underlying25
  have HR0 := Aside0.mk hr0
  have HC0 := Aside0.mk hc0
  clear hr0 hc0
  have HR1 := Aside0.mk hr1
  have HC1 := Aside0.mk hc1
  clear hr1 hc1
  have HB := Aside0.mk (Below.refl w.heap.size w)
  have H : ((numerarylaw02_few.f l0).bind fun t493 => ((numerarylaw02_few.f l1).bind fun t496 => ((nat_Made.f k t493).bind fun t499 => ((nat_Made.f k t496).bind fun t502 => ((numeraryref02_Made.f k t493).bind fun t507 => ((numeraryref02_Made.f k t496).bind fun t510 => ((numeraryref02_Cmp.f k t507 t510).bind fun t513 => ((nat_Sub.f k t499 t502).bind fun bt514 => ((nat_Cmp.f k t499 t502).bind fun t519 => (if t519 = t513 then ((nat_Cmp.f k t502 t499).bind fun t520 => (if t520 = (wrap64 (-t513)) then (if (bt514.2 != (decide (t513 ≥ 0))) = true then (some false) else (if bt514.2 = true then ((numerarylaw02_wakes.f k).bind fun t521 => (if t521 = true then ((nat_Add.f k t499 t502).bind fun t522 => ((numerarylaw02_of.f k t522).bind fun t525 => ((numeraryref02_Add.f k t507 t510).bind fun t528 => ((numerarylaw02_same.f k t525 t528).bind fun t531 => (if t531 = true then ((numerarylaw02_of.f k bt514.1).bind fun t532 => ((numeraryref02_Sub.f k t507 t510).bind fun t535 => ((numerarylaw02_same.f k t532 t535).bind fun t538 => (some t538)))) else (some false)))))) else (some false))) else ((nat_Nat_Limbs.f bt514.1).bind fun t539 => (if (t539.length : Int) = 0 then ((numerarylaw02_wakes.f k).bind fun t542 => (if t542 = true then ((nat_Add.f k t499 t502).bind fun t543 => ((numerarylaw02_of.f k t543).bind fun t546 => ((numeraryref02_Add.f k t507 t510).bind fun t549 => ((numerarylaw02_same.f k t546 t549).bind fun t552 => (if t552 = true then (some true) else (some false)))))) else (some false))) else (some false))))) else (some false))) else (some false))))))))))) = some r := h
  clear h
  replace H := Option.bind_eq_some_iff.mp H
  obtain ⟨t493, A30, H⟩ := H
  replace H : ((numerarylaw02_few.f l1).bind fun t496 => ((nat_Made.f k t493).bind fun t499 => ((nat_Made.f k t496).bind fun t502 => ((numeraryref02_Made.f k t493).bind fun t507 => ((numeraryref02_Made.f k t496).bind fun t510 => ((numeraryref02_Cmp.f k t507 t510).bind fun t513 => ((nat_Sub.f k t499 t502).bind fun bt514 => ((nat_Cmp.f k t499 t502).bind fun t519 => (if t519 = t513 then ((nat_Cmp.f k t502 t499).bind fun t520 => (if t520 = (wrap64 (-t513)) then (if (bt514.2 != (decide (t513 ≥ 0))) = true then (some false) else (if bt514.2 = true then ((numerarylaw02_wakes.f k).bind fun t521 => (if t521 = true then ((nat_Add.f k t499 t502).bind fun t522 => ((numerarylaw02_of.f k t522).bind fun t525 => ((numeraryref02_Add.f k t507 t510).bind fun t528 => ((numerarylaw02_same.f k t525 t528).bind fun t531 => (if t531 = true then ((numerarylaw02_of.f k bt514.1).bind fun t532 => ((numeraryref02_Sub.f k t507 t510).bind fun t535 => ((numerarylaw02_same.f k t532 t535).bind fun t538 => (some t538)))) else (some false)))))) else (some false))) else ((nat_Nat_Limbs.f bt514.1).bind fun t539 => (if (t539.length : Int) = 0 then ((numerarylaw02_wakes.f k).bind fun t542 => (if t542 = true then ((nat_Add.f k t499 t502).bind fun t543 => ((numerarylaw02_of.f k t543).bind fun t546 => ((numeraryref02_Add.f k t507 t510).bind fun t549 => ((numerarylaw02_same.f k t546 t549).bind fun t552 => (if t552 = true then (some true) else (some false)))))) else (some false))) else (some false))))) else (some false))) else (some false)))))))))) = some r := H
  have A3 := Aside0.mk A30
  clear A30
  replace H := Option.bind_eq_some_iff.mp H
  obtain ⟨t496, A40, H⟩ := H
  replace H : ((nat_Made.f k t493).bind fun t499 => ((nat_Made.f k t496).bind fun t502 => ((numeraryref02_Made.f k t493).bind fun t507 => ((numeraryref02_Made.f k t496).bind fun t510 => ((numeraryref02_Cmp.f k t507 t510).bind fun t513 => ((nat_Sub.f k t499 t502).bind fun bt514 => ((nat_Cmp.f k t499 t502).bind fun t519 => (if t519 = t513 then ((nat_Cmp.f k t502 t499).bind fun t520 => (if t520 = (wrap64 (-t513)) then (if (bt514.2 != (decide (t513 ≥ 0))) = true then (some false) else (if bt514.2 = true then ((numerarylaw02_wakes.f k).bind fun t521 => (if t521 = true then ((nat_Add.f k t499 t502).bind fun t522 => ((numerarylaw02_of.f k t522).bind fun t525 => ((numeraryref02_Add.f k t507 t510).bind fun t528 => ((numerarylaw02_same.f k t525 t528).bind fun t531 => (if t531 = true then ((numerarylaw02_of.f k bt514.1).bind fun t532 => ((numeraryref02_Sub.f k t507 t510).bind fun t535 => ((numerarylaw02_same.f k t532 t535).bind fun t538 => (some t538)))) else (some false)))))) else (some false))) else ((nat_Nat_Limbs.f bt514.1).bind fun t539 => (if (t539.length : Int) = 0 then ((numerarylaw02_wakes.f k).bind fun t542 => (if t542 = true then ((nat_Add.f k t499 t502).bind fun t543 => ((numerarylaw02_of.f k t543).bind fun t546 => ((numeraryref02_Add.f k t507 t510).bind fun t549 => ((numerarylaw02_same.f k t546 t549).bind fun t552 => (if t552 = true then (some true) else (some false)))))) else (some false))) else (some false))))) else (some false))) else (some false))))))))) = some r := H
  have A4 := Aside0.mk A40
  clear A40
  replace H := Option.bind_eq_some_iff.mp H
  obtain ⟨t499, A50, H⟩ := H
  replace H : ((nat_Made.f k t496).bind fun t502 => ((numeraryref02_Made.f k t493).bind fun t507 => ((numeraryref02_Made.f k t496).bind fun t510 => ((numeraryref02_Cmp.f k t507 t510).bind fun t513 => ((nat_Sub.f k t499 t502).bind fun bt514 => ((nat_Cmp.f k t499 t502).bind fun t519 => (if t519 = t513 then ((nat_Cmp.f k t502 t499).bind fun t520 => (if t520 = (wrap64 (-t513)) then (if (bt514.2 != (decide (t513 ≥ 0))) = true then (some false) else (if bt514.2 = true then ((numerarylaw02_wakes.f k).bind fun t521 => (if t521 = true then ((nat_Add.f k t499 t502).bind fun t522 => ((numerarylaw02_of.f k t522).bind fun t525 => ((numeraryref02_Add.f k t507 t510).bind fun t528 => ((numerarylaw02_same.f k t525 t528).bind fun t531 => (if t531 = true then ((numerarylaw02_of.f k bt514.1).bind fun t532 => ((numeraryref02_Sub.f k t507 t510).bind fun t535 => ((numerarylaw02_same.f k t532 t535).bind fun t538 => (some t538)))) else (some false)))))) else (some false))) else ((nat_Nat_Limbs.f bt514.1).bind fun t539 => (if (t539.length : Int) = 0 then ((numerarylaw02_wakes.f k).bind fun t542 => (if t542 = true then ((nat_Add.f k t499 t502).bind fun t543 => ((numerarylaw02_of.f k t543).bind fun t546 => ((numeraryref02_Add.f k t507 t510).bind fun t549 => ((numerarylaw02_same.f k t546 t549).bind fun t552 => (if t552 = true then (some true) else (some false)))))) else (some false))) else (some false))))) else (some false))) else (some false)))))))) = some r := H
  have A5 := Aside0.mk A50
  clear A50
  replace H := Option.bind_eq_some_iff.mp H
  obtain ⟨t502, A60, H⟩ := H
  replace H : ((numeraryref02_Made.f k t493).bind fun t507 => ((numeraryref02_Made.f k t496).bind fun t510 => ((numeraryref02_Cmp.f k t507 t510).bind fun t513 => ((nat_Sub.f k t499 t502).bind fun bt514 => ((nat_Cmp.f k t499 t502).bind fun t519 => (if t519 = t513 then ((nat_Cmp.f k t502 t499).bind fun t520 => (if t520 = (wrap64 (-t513)) then (if (bt514.2 != (decide (t513 ≥ 0))) = true then (some false) else (if bt514.2 = true then ((numerarylaw02_wakes.f k).bind fun t521 => (if t521 = true then ((nat_Add.f k t499 t502).bind fun t522 => ((numerarylaw02_of.f k t522).bind fun t525 => ((numeraryref02_Add.f k t507 t510).bind fun t528 => ((numerarylaw02_same.f k t525 t528).bind fun t531 => (if t531 = true then ((numerarylaw02_of.f k bt514.1).bind fun t532 => ((numeraryref02_Sub.f k t507 t510).bind fun t535 => ((numerarylaw02_same.f k t532 t535).bind fun t538 => (some t538)))) else (some false)))))) else (some false))) else ((nat_Nat_Limbs.f bt514.1).bind fun t539 => (if (t539.length : Int) = 0 then ((numerarylaw02_wakes.f k).bind fun t542 => (if t542 = true then ((nat_Add.f k t499 t502).bind fun t543 => ((numerarylaw02_of.f k t543).bind fun t546 => ((numeraryref02_Add.f k t507 t510).bind fun t549 => ((numerarylaw02_same.f k t546 t549).bind fun t552 => (if t552 = true then (some true) else (some false)))))) else (some false))) else (some false))))) else (some false))) else (some false))))))) = some r := H
  have A6 := Aside0.mk A60
  clear A60
  replace H := Option.bind_eq_some_iff.mp H
  obtain ⟨t507, A70, H⟩ := H
  replace H : ((numeraryref02_Made.f k t496).bind fun t510 => ((numeraryref02_Cmp.f k t507 t510).bind fun t513 => ((nat_Sub.f k t499 t502).bind fun bt514 => ((nat_Cmp.f k t499 t502).bind fun t519 => (if t519 = t513 then ((nat_Cmp.f k t502 t499).bind fun t520 => (if t520 = (wrap64 (-t513)) then (if (bt514.2 != (decide (t513 ≥ 0))) = true then (some false) else (if bt514.2 = true then ((numerarylaw02_wakes.f k).bind fun t521 => (if t521 = true then ((nat_Add.f k t499 t502).bind fun t522 => ((numerarylaw02_of.f k t522).bind fun t525 => ((numeraryref02_Add.f k t507 t510).bind fun t528 => ((numerarylaw02_same.f k t525 t528).bind fun t531 => (if t531 = true then ((numerarylaw02_of.f k bt514.1).bind fun t532 => ((numeraryref02_Sub.f k t507 t510).bind fun t535 => ((numerarylaw02_same.f k t532 t535).bind fun t538 => (some t538)))) else (some false)))))) else (some false))) else ((nat_Nat_Limbs.f bt514.1).bind fun t539 => (if (t539.length : Int) = 0 then ((numerarylaw02_wakes.f k).bind fun t542 => (if t542 = true then ((nat_Add.f k t499 t502).bind fun t543 => ((numerarylaw02_of.f k t543).bind fun t546 => ((numeraryref02_Add.f k t507 t510).bind fun t549 => ((numerarylaw02_same.f k t546 t549).bind fun t552 => (if t552 = true then (some true) else (some false)))))) else (some false))) else (some false))))) else (some false))) else (some false)))))) = some r := H
  have A7 := Aside0.mk A70
  clear A70
  replace H := Option.bind_eq_some_iff.mp H
  obtain ⟨t510, A80, H⟩ := H
  replace H : ((numeraryref02_Cmp.f k t507 t510).bind fun t513 => ((nat_Sub.f k t499 t502).bind fun bt514 => ((nat_Cmp.f k t499 t502).bind fun t519 => (if t519 = t513 then ((nat_Cmp.f k t502 t499).bind fun t520 => (if t520 = (wrap64 (-t513)) then (if (bt514.2 != (decide (t513 ≥ 0))) = true then (some false) else (if bt514.2 = true then ((numerarylaw02_wakes.f k).bind fun t521 => (if t521 = true then ((nat_Add.f k t499 t502).bind fun t522 => ((numerarylaw02_of.f k t522).bind fun t525 => ((numeraryref02_Add.f k t507 t510).bind fun t528 => ((numerarylaw02_same.f k t525 t528).bind fun t531 => (if t531 = true then ((numerarylaw02_of.f k bt514.1).bind fun t532 => ((numeraryref02_Sub.f k t507 t510).bind fun t535 => ((numerarylaw02_same.f k t532 t535).bind fun t538 => (some t538)))) else (some false)))))) else (some false))) else ((nat_Nat_Limbs.f bt514.1).bind fun t539 => (if (t539.length : Int) = 0 then ((numerarylaw02_wakes.f k).bind fun t542 => (if t542 = true then ((nat_Add.f k t499 t502).bind fun t543 => ((numerarylaw02_of.f k t543).bind fun t546 => ((numeraryref02_Add.f k t507 t510).bind fun t549 => ((numerarylaw02_same.f k t546 t549).bind fun t552 => (if t552 = true then (some true) else (some false)))))) else (some false))) else (some false))))) else (some false))) else (some false))))) = some r := H
  have A8 := Aside0.mk A80
  clear A80
  replace H := Option.bind_eq_some_iff.mp H
  obtain ⟨t513, A90, H⟩ := H
  replace H : ((nat_Sub.f k t499 t502).bind fun bt514 => ((nat_Cmp.f k t499 t502).bind fun t519 => (if t519 = t513 then ((nat_Cmp.f k t502 t499).bind fun t520 => (if t520 = (wrap64 (-t513)) then (if (bt514.2 != (decide (t513 ≥ 0))) = true then (some false) else (if bt514.2 = true then ((numerarylaw02_wakes.f k).bind fun t521 => (if t521 = true then ((nat_Add.f k t499 t502).bind fun t522 => ((numerarylaw02_of.f k t522).bind fun t525 => ((numeraryref02_Add.f k t507 t510).bind fun t528 => ((numerarylaw02_same.f k t525 t528).bind fun t531 => (if t531 = true then ((numerarylaw02_of.f k bt514.1).bind fun t532 => ((numeraryref02_Sub.f k t507 t510).bind fun t535 => ((numerarylaw02_same.f k t532 t535).bind fun t538 => (some t538)))) else (some false)))))) else (some false))) else ((nat_Nat_Limbs.f bt514.1).bind fun t539 => (if (t539.length : Int) = 0 then ((numerarylaw02_wakes.f k).bind fun t542 => (if t542 = true then ((nat_Add.f k t499 t502).bind fun t543 => ((numerarylaw02_of.f k t543).bind fun t546 => ((numeraryref02_Add.f k t507 t510).bind fun t549 => ((numerarylaw02_same.f k t546 t549).bind fun t552 => (if t552 = true then (some true) else (some false)))))) else (some false))) else (some false))))) else (some false))) else (some false)))) = some r := H
  have A9 := Aside0.mk A90
  clear A90
  replace H := Option.bind_eq_some_iff.mp H
  obtain ⟨⟨t514, t517⟩, A100, H⟩ := H
  replace H : ((nat_Cmp.f k t499 t502).bind fun t519 => (if t519 = t513 then ((nat_Cmp.f k t502 t499).bind fun t520 => (if t520 = (wrap64 (-t513)) then (if (t517 != (decide (t513 ≥ 0))) = true then (some false) else (if t517 = true then ((numerarylaw02_wakes.f k).bind fun t521 => (if t521 = true then ((nat_Add.f k t499 t502).bind fun t522 => ((numerarylaw02_of.f k t522).bind fun t525 => ((numeraryref02_Add.f k t507 t510).bind fun t528 => ((numerarylaw02_same.f k t525 t528).bind fun t531 => (if t531 = true then ((numerarylaw02_of.f k t514).bind fun t532 => ((numeraryref02_Sub.f k t507 t510).bind fun t535 => ((numerarylaw02_same.f k t532 t535).bind fun t538 => (some t538)))) else (some false)))))) else (some false))) else ((nat_Nat_Limbs.f t514).bind fun t539 => (if (t539.length : Int) = 0 then ((numerarylaw02_wakes.f k).bind fun t542 => (if t542 = true then ((nat_Add.f k t499 t502).bind fun t543 => ((numerarylaw02_of.f k t543).bind fun t546 => ((numeraryref02_Add.f k t507 t510).bind fun t549 => ((numerarylaw02_same.f k t546 t549).bind fun t552 => (if t552 = true then (some true) else (some false)))))) else (some false))) else (some false))))) else (some false))) else (some false))) = some r := H
  have A10 := Aside0.mk A100
  clear A100
  replace H := Option.bind_eq_some_iff.mp H
  obtain ⟨t519, A110, H⟩ := H
  replace H : (if t519 = t513 then ((nat_Cmp.f k t502 t499).bind fun t520 => (if t520 = (wrap64 (-t513)) then (if (t517 != (decide (t513 ≥ 0))) = true then (some false) else (if t517 = true then ((numerarylaw02_wakes.f k).bind fun t521 => (if t521 = true then ((nat_Add.f k t499 t502).bind fun t522 => ((numerarylaw02_of.f k t522).bind fun t525 => ((numeraryref02_Add.f k t507 t510).bind fun t528 => ((numerarylaw02_same.f k t525 t528).bind fun t531 => (if t531 = true then ((numerarylaw02_of.f k t514).bind fun t532 => ((numeraryref02_Sub.f k t507 t510).bind fun t535 => ((numerarylaw02_same.f k t532 t535).bind fun t538 => (some t538)))) else (some false)))))) else (some false))) else ((nat_Nat_Limbs.f t514).bind fun t539 => (if (t539.length : Int) = 0 then ((numerarylaw02_wakes.f k).bind fun t542 => (if t542 = true then ((nat_Add.f k t499 t502).bind fun t543 => ((numerarylaw02_of.f k t543).bind fun t546 => ((numeraryref02_Add.f k t507 t510).bind fun t549 => ((numerarylaw02_same.f k t546 t549).bind fun t552 => (if t552 = true then (some true) else (some false)))))) else (some false))) else (some false))))) else (some false))) else (some false)) = some r := H
  have A11 := Aside0.mk A110
  clear A110
  by_cases c12 : t519 = t513
  · rw [if_pos c12] at H
    have c12b0 : (t519 == t513) = true := beq_iff_eq.mpr c12
    have c12b1 : (t519 != t513) = false := bne_eq_false_iff_eq.mpr c12
    clear c12
    replace H := Option.bind_eq_some_iff.mp H
    obtain ⟨t520, A130, H⟩ := H
    replace H : (if t520 = (wrap64 (-t513)) then (if (t517 != (decide (t513 ≥ 0))) = true then (some false) else (if t517 = true then ((numerarylaw02_wakes.f k).bind fun t521 => (if t521 = true then ((nat_Add.f k t499 t502).bind fun t522 => ((numerarylaw02_of.f k t522).bind fun t525 => ((numeraryref02_Add.f k t507 t510).bind fun t528 => ((numerarylaw02_same.f k t525 t528).bind fun t531 => (if t531 = true then ((numerarylaw02_of.f k t514).bind fun t532 => ((numeraryref02_Sub.f k t507 t510).bind fun t535 => ((numerarylaw02_same.f k t532 t535).bind fun t538 => (some t538)))) else (some false)))))) else (some false))) else ((nat_Nat_Limbs.f t514).bind fun t539 => (if (t539.length : Int) = 0 then ((numerarylaw02_wakes.f k).bind fun t542 => (if t542 = true then ((nat_Add.f k t499 t502).bind fun t543 => ((numerarylaw02_of.f k t543).bind fun t546 => ((numeraryref02_Add.f k t507 t510).bind fun t549 => ((numerarylaw02_same.f k t546 t549).bind fun t552 => (if t552 = true then (some true) else (some false)))))) else (some false))) else (some false))))) else (some false)) = some r := H
    have A13 := Aside0.mk A130
    clear A130
    by_cases c14 : t520 = (wrap64 (-t513))
    · rw [if_pos c14] at H
      have c14b0 : (t520 == (wrap64 (-t513))) = true := beq_iff_eq.mpr c14
      have c14b1 : (t520 != (wrap64 (-t513))) = false := bne_eq_false_iff_eq.mpr c14
      clear c14
      by_cases c15 : (t517 != (decide (t513 ≥ 0))) = true
      · rw [if_pos c15] at H
        exact absurd (H.trans (congrArg some HR_.out)) (by simp)
      · rw [if_neg c15] at H
        have c15b0 : (t517 != (decide (t513 ≥ 0))) = false := by simpa using c15
        (try (have c15b1 : decide (t517 = (decide (t513 ≥ 0))) = true := by simpa using c15))
        (try (have c15b2 : (t517 == (decide (t513 ≥ 0))) = true := by simpa using c15))
        clear c15
        by_cases c16 : t517 = true
        · subst c16
          have H1 : ((numerarylaw02_wakes.f k).bind fun t521 => (if t521 = true then ((nat_Add.f k t499 t502).bind fun t522 => ((numerarylaw02_of.f k t522).bind fun t525 => ((numeraryref02_Add.f k t507 t510).bind fun t528 => ((numerarylaw02_same.f k t525 t528).bind fun t531 => (if t531 = true then ((numerarylaw02_of.f k t514).bind fun t532 => ((numeraryref02_Sub.f k t507 t510).bind fun t535 => ((numerarylaw02_same.f k t532 t535).bind fun t538 => (some t538)))) else (some false)))))) else (some false))) = some r := by rw [if_pos rfl] at H; exact H
          clear H
          have H := H1
          clear H1
          replace H := Option.bind_eq_some_iff.mp H
          obtain ⟨t521, A170, H⟩ := H
          replace H : (if t521 = true then ((nat_Add.f k t499 t502).bind fun t522 => ((numerarylaw02_of.f k t522).bind fun t525 => ((numeraryref02_Add.f k t507 t510).bind fun t528 => ((numerarylaw02_same.f k t525 t528).bind fun t531 => (if t531 = true then ((numerarylaw02_of.f k t514).bind fun t532 => ((numeraryref02_Sub.f k t507 t510).bind fun t535 => ((numerarylaw02_same.f k t532 t535).bind fun t538 => (some t538)))) else (some false)))))) else (some false)) = some r := H
          have A17 := Aside0.mk A170
          clear A170
          by_cases c18 : t521 = true
          · subst c18
            have H1 : ((nat_Add.f k t499 t502).bind fun t522 => ((numerarylaw02_of.f k t522).bind fun t525 => ((numeraryref02_Add.f k t507 t510).bind fun t528 => ((numerarylaw02_same.f k t525 t528).bind fun t531 => (if t531 = true then ((numerarylaw02_of.f k t514).bind fun t532 => ((numeraryref02_Sub.f k t507 t510).bind fun t535 => ((numerarylaw02_same.f k t532 t535).bind fun t538 => (some t538)))) else (some false)))))) = some r := by rw [if_pos rfl] at H; exact H
            clear H
            have H := H1
            clear H1
            replace H := Option.bind_eq_some_iff.mp H
            obtain ⟨t522, A190, H⟩ := H
            replace H : ((numerarylaw02_of.f k t522).bind fun t525 => ((numeraryref02_Add.f k t507 t510).bind fun t528 => ((numerarylaw02_same.f k t525 t528).bind fun t531 => (if t531 = true then ((numerarylaw02_of.f k t514).bind fun t532 => ((numeraryref02_Sub.f k t507 t510).bind fun t535 => ((numerarylaw02_same.f k t532 t535).bind fun t538 => (some t538)))) else (some false))))) = some r := H
            have A19 := Aside0.mk A190
            clear A190
            replace H := Option.bind_eq_some_iff.mp H
            obtain ⟨t525, A200, H⟩ := H
            replace H : ((numeraryref02_Add.f k t507 t510).bind fun t528 => ((numerarylaw02_same.f k t525 t528).bind fun t531 => (if t531 = true then ((numerarylaw02_of.f k t514).bind fun t532 => ((numeraryref02_Sub.f k t507 t510).bind fun t535 => ((numerarylaw02_same.f k t532 t535).bind fun t538 => (some t538)))) else (some false)))) = some r := H
            have A20 := Aside0.mk A200
            clear A200
            replace H := Option.bind_eq_some_iff.mp H
            obtain ⟨t528, A210, H⟩ := H
            replace H : ((numerarylaw02_same.f k t525 t528).bind fun t531 => (if t531 = true then ((numerarylaw02_of.f k t514).bind fun t532 => ((numeraryref02_Sub.f k t507 t510).bind fun t535 => ((numerarylaw02_same.f k t532 t535).bind fun t538 => (some t538)))) else (some false))) = some r := H
            have A21 := Aside0.mk A210
            clear A210
            replace H := Option.bind_eq_some_iff.mp H
            obtain ⟨t531, A220, H⟩ := H
            replace H : (if t531 = true then ((numerarylaw02_of.f k t514).bind fun t532 => ((numeraryref02_Sub.f k t507 t510).bind fun t535 => ((numerarylaw02_same.f k t532 t535).bind fun t538 => (some t538)))) else (some false)) = some r := H
            have A22 := Aside0.mk A220
            clear A220
            by_cases c23 : t531 = true
            · subst c23
              have H1 : ((numerarylaw02_of.f k t514).bind fun t532 => ((numeraryref02_Sub.f k t507 t510).bind fun t535 => ((numerarylaw02_same.f k t532 t535).bind fun t538 => (some t538)))) = some r := by rw [if_pos rfl] at H; exact H
              clear H
              have H := H1
              clear H1
              replace H := Option.bind_eq_some_iff.mp H
              obtain ⟨t532, A240, H⟩ := H
              replace H : ((numeraryref02_Sub.f k t507 t510).bind fun t535 => ((numerarylaw02_same.f k t532 t535).bind fun t538 => (some t538))) = some r := H
              have A24 := Aside0.mk A240
              clear A240
              replace H := Option.bind_eq_some_iff.mp H
              obtain ⟨t535, A250, H⟩ := H
              replace H : ((numerarylaw02_same.f k t532 t535).bind fun t538 => (some t538)) = some r := H
              have A25 := Aside0.mk A250
              clear A250
              replace H := Option.bind_eq_some_iff.mp H
              obtain ⟨t538, A260, H⟩ := H
              replace H : (some t538) = some r := H
              have A26 := Aside0.mk A260
              clear A260
              obtain rfl := Option.some.inj H
              go_enter Try.func6, Try.ntmps6
              go_wp2_with (first | ((with_reducible refine gate_callee (f := 30) rfl ?_); refine goesL_ (some 13) rfl rfl Try.func30 (by kernel_rfl) rfl #[.slice A0 l0.length c0] rfl (by (try simp only [List.map_toArray, List.map_cons, List.map_nil]); first | done | rfl | (simp only [List.length_drop, List.length_take]; rfl)) ?_; (with_reducible refine (numerarylaw02_few.calls (fun k_ => k_ < w.heap.size) _ _ l0 t493 _ ?side1 A3.out).mono ?_); (case side1 => exact Kd.V_mk HC0.out (Kd.F_below (Kd.C_F (Kd.heap_int .u32) HR0.out) (by repeat (first | (with_reducible first | exact HB.out | apply below_alloc | apply pw_below_drewN | apply below_drew1) | exact HB.out)))); rintro e w27 ⟨v494, rfl, ho0, hb⟩; refine ⟨_, rfl, ?_⟩; have n0_ := Aside0.mk (Kd.V_lower (Kd.V_mono (ok' := fun k_ => True) ho0 (fun k_ hk_ => trivial)) (below_size (by repeat (first | (with_reducible first | exact HB.out | apply below_alloc | apply pw_below_drewN | apply below_drew1) | exact HB.out)))); have n1_ := Aside0.mk (below_step (by repeat (first | (with_reducible first | exact HB.out | apply below_alloc | apply pw_below_drewN | apply below_drew1) | exact HB.out)) hb); clear HB; have HO495 := n0_; have HB := n1_; clear n0_ n1_; (try clear hb); (try clear hb2); (try clear hk); (try clear hi); (try clear ho0)) | ((with_reducible refine gate_callee (f := 30) rfl ?_); refine goesL_ (some 15) rfl rfl Try.func30 (by kernel_rfl) rfl #[.slice A1 l1.length c1] rfl (by (try simp only [List.map_toArray, List.map_cons, List.map_nil]); first | done | rfl | (simp only [List.length_drop, List.length_take]; rfl)) ?_; (with_reducible refine (numerarylaw02_few.calls (fun k_ => k_ < w.heap.size) _ _ l1 t496 _ ?side1 A4.out).mono ?_); (case side1 => exact Kd.V_mk HC1.out (Kd.F_below (Kd.C_F (Kd.heap_int .u32) HR1.out) (by repeat (first | (with_reducible first | exact HB.out | apply below_alloc | apply pw_below_drewN | apply below_drew1) | exact HB.out)))); rintro e w28 ⟨v497, rfl, ho0, hb⟩; refine ⟨_, rfl, ?_⟩; have n0_ := Aside0.mk (Kd.V_below (by (with_reducible repeat (first | apply Kd.V_alloc | apply Kd.V_drewN | apply Kd.V_drew)); exact HO495.out) hb); have n1_ := Aside0.mk (Kd.V_lower (Kd.V_mono (ok' := fun k_ => True) ho0 (fun k_ hk_ => trivial)) (below_size (by repeat (first | (with_reducible first | exact HB.out | apply below_alloc | apply pw_below_drewN | apply below_drew1) | exact HB.out)))); have n2_ := Aside0.mk (below_step (by repeat (first | (with_reducible first | exact HB.out | apply below_alloc | apply pw_below_drewN | apply below_drew1) | exact HB.out)) hb); clear HO495; clear HB; have HO495 := n0_; have HO498 := n1_; have HB := n2_; clear n0_ n1_ n2_; (try clear hb); (try clear hb2); (try clear hk); (try clear hi); (try clear ho0); obtain ⟨Ao29, co29, eo29⟩ := Kd.V_slice HO495.out; subst eo29) | ((with_reducible refine gate_callee (f := 16) rfl ?_); refine goesL_ (some 17) rfl rfl Try.func16 (by kernel_rfl) rfl #[.slice Ao29 t493.length co29] rfl (by (try simp only [List.map_toArray, List.map_cons, List.map_nil]); first | done | rfl | (simp only [List.length_drop, List.length_take]; rfl)) ?_; (with_reducible refine (nat_Made.calls k _ _ t493 t499 _ ?side1 ?side2 A5.out).mono ?_); (case side1 => repeat (first | exact (Kd.V_reads' HO495.out).2.2 | (with_reducible refine Kd.C_alloc ?_ _) | (with_reducible refine Kd.C_drewN ?_ _) | (with_reducible refine Kd.C_drew ?_))); (case side2 => exact (Kd.V_reads' HO495.out).2.1); rintro e w30 ⟨v500, rfl, ho0, hb⟩; refine ⟨_, rfl, ?_⟩; have n0_ := Aside0.mk (Kd.V_elder' (by (with_reducible repeat (first | apply Kd.V_alloc | apply Kd.V_drewN | apply Kd.V_drew)); exact HO495.out) (Kd.R_base ho0) hb); have n1_ := Aside0.mk (Kd.V_elder' (by (with_reducible repeat (first | apply Kd.V_alloc | apply Kd.V_drewN | apply Kd.V_drew)); exact HO498.out) (Kd.R_base ho0) hb); have n2_ := Aside0.mk (Kd.R_lower ho0 (below_size (by repeat (first | (with_reducible first | exact HB.out | apply below_alloc | apply pw_below_drewN | apply below_drew1) | exact HB.out)))); have n3_ := Aside0.mk (below_step (by repeat (first | (with_reducible first | exact HB.out | apply below_alloc | apply pw_below_drewN | apply below_drew1) | exact HB.out)) hb); clear HO495; clear HO498; clear HB; have HO495 := n0_; have HO498 := n1_; have HO501 := n2_; have HB := n3_; clear n0_ n1_ n2_ n3_; (try clear hb); (try clear hb2); (try clear hk); (try clear hi); (try clear ho0); obtain ⟨Ao31, co31, eo31⟩ := Kd.V_slice HO498.out; subst eo31) | ((with_reducible refine gate_callee (f := 16) rfl ?_); refine goesL_ (some 19) rfl rfl Try.func16 (by kernel_rfl) rfl #[.slice Ao31 t496.length co31] rfl (by (try simp only [List.map_toArray, List.map_cons, List.map_nil]); first | done | rfl | (simp only [List.length_drop, List.length_take]; rfl)) ?_; (with_reducible refine (nat_Made.calls k _ _ t496 t502 _ ?side1 ?side2 A6.out).mono ?_); (case side1 => repeat (first | exact (Kd.V_reads' HO498.out).2.2 | (with_reducible refine Kd.C_alloc ?_ _) | (with_reducible refine Kd.C_drewN ?_ _) | (with_reducible refine Kd.C_drew ?_))); (case side2 => exact (Kd.V_reads' HO498.out).2.1); rintro e w32 ⟨v503, rfl, ho0, hb⟩; refine ⟨_, rfl, ?_⟩; have n0_ := Aside0.mk (Kd.V_elder' (by (with_reducible repeat (first | apply Kd.V_alloc | apply Kd.V_drewN | apply Kd.V_drew)); exact HO495.out) (Kd.R_base ho0) hb); have n1_ := Aside0.mk (Kd.V_elder' (by (with_reducible repeat (first | apply Kd.V_alloc | apply Kd.V_drewN | apply Kd.V_drew)); exact HO498.out) (Kd.R_base ho0) hb); have n2_ := Aside0.mk (Kd.R_elder' (by (with_reducible repeat (first | apply Kd.R_alloc | apply Kd.R_drewN | apply Kd.R_drew)); exact HO501.out) (Kd.R_base ho0) hb); have n3_ := Aside0.mk (Kd.R_lower (Kd.R_new' ho0 (Kd.R_lt (by (with_reducible repeat (first | apply Kd.R_alloc | apply Kd.R_drewN | apply Kd.R_drew)); exact HO501.out))) (below_size (by repeat (first | (with_reducible first | exact HB.out | apply below_alloc | apply pw_below_drewN | apply below_drew1) | exact HB.out)))); have n4_ := Aside0.mk (below_step (by repeat (first | (with_reducible first | exact HB.out | apply below_alloc | apply pw_below_drewN | apply below_drew1) | exact HB.out)) hb); clear HO495; clear HO498; clear HO501; clear HB; have HO495 := n0_; have HO498 := n1_; have HO501 := n2_; have HO504 := n3_; have HB := n4_; clear n0_ n1_ n2_ n3_ n4_; (try clear hb); (try clear hb2); (try clear hk); (try clear hi); (try clear ho0)) | ((with_reducible refine gate_dst (N := 5) rfl ?_); (try (refine gate_guard (by rfl) ?_; dsimp only)); refine box_event ?hg (N := 5) ?hd (cs := #[.slice none 0 0]) (t := 25) ?hr ?_; (case hd => rfl); (case hg => rfl); (case hr => first | (go_simp; done) | (go_simp; rfl)); intro gb505 hg w33 hbox hb; have n0_ := Aside0.mk (Kd.V_below (Kd.V_elderB (by (with_reducible repeat (first | apply Kd.V_alloc | apply Kd.V_drewN | apply Kd.V_drew)); exact HO495.out) gb505 (Nat.le_of_eq hg.symm)) hb); have n1_ := Aside0.mk (Kd.V_below (Kd.V_elderB (by (with_reducible repeat (first | apply Kd.V_alloc | apply Kd.V_drewN | apply Kd.V_drew)); exact HO498.out) gb505 (Nat.le_of_eq hg.symm)) hb); have n2_ := Aside0.mk (Kd.R_below (by (with_reducible repeat (first | apply Kd.R_alloc | apply Kd.R_drewN | apply Kd.R_drew)); exact HO501.out) hb); have n3_ := Aside0.mk (Kd.R_below (by (with_reducible repeat (first | apply Kd.R_alloc | apply Kd.R_drewN | apply Kd.R_drew)); exact HO504.out) hb); have n4_ := Aside0.mk (below_step (by repeat (first | (with_reducible first | exact HB.out | apply below_alloc | apply pw_below_drewN | apply below_drew1) | exact HB.out)) hb); have n5_ := Aside0.mk (hbox); have n6_ := Aside0.mk ((by rw [hg]; exact (below_size (by repeat (first | (with_reducible first | exact HB.out | apply below_alloc | apply pw_below_drewN | apply below_drew1) | exact HB.out))) : w.heap.size ≤ gb505)); have n7_ := Aside0.mk ((by rw [hg]; exact (below_size (by repeat (first | (with_reducible first | exact HB.out | apply below_alloc | apply pw_below_drewN | apply below_drew1) | exact HB.out))) : w.heap.size ≤ gb505)); clear HO495; clear HO498; clear HO501; clear HO504; clear HB; have HO495 := n0_; have HO498 := n1_; have HO501 := n2_; have HO504 := n3_; have HB := n4_; have BK505 := n5_; have GW505 := n6_; have GE505 := n7_; clear n0_ n1_ n2_ n3_ n4_ n5_ n6_ n7_; clear hb hbox hg) | ((with_reducible refine gate_dst (N := 6) rfl ?_); (try (refine gate_guard (by rfl) ?_; dsimp only)); refine box_event ?hg (N := 6) ?hd (cs := #[.slice none 0 0]) (t := 25) ?hr ?_; (case hd => rfl); (case hg => rfl); (case hr => first | (go_simp; done) | (go_simp; rfl)); intro gb506 hg w34 hbox hb; have n0_ := Aside0.mk (Kd.V_below (Kd.V_elderB (by (with_reducible repeat (first | apply Kd.V_alloc | apply Kd.V_drewN | apply Kd.V_drew)); exact HO495.out) gb506 (Nat.le_of_eq hg.symm)) hb); have n1_ := Aside0.mk (Kd.V_below (Kd.V_elderB (by (with_reducible repeat (first | apply Kd.V_alloc | apply Kd.V_drewN | apply Kd.V_drew)); exact HO498.out) gb506 (Nat.le_of_eq hg.symm)) hb); have n2_ := Aside0.mk (Kd.R_below (by (with_reducible repeat (first | apply Kd.R_alloc | apply Kd.R_drewN | apply Kd.R_drew)); exact HO501.out) hb); have n3_ := Aside0.mk (Kd.R_below (by (with_reducible repeat (first | apply Kd.R_alloc | apply Kd.R_drewN | apply Kd.R_drew)); exact HO504.out) hb); have n4_ := Aside0.mk (blk_below (g := gb505) (o := .cells #[.slice none 0 0] 25 (0, 0)) (by (with_reducible repeat (first | refine blk_drewN ?_ _ | refine blk_drew ?_ | refine blk_alloc ?_ _)); exact BK505.out) hb); have n5_ := Aside0.mk (below_step (by repeat (first | (with_reducible first | exact HB.out | apply below_alloc | apply pw_below_drewN | apply below_drew1 | refine below_set ?_ GE505.out) | exact HB.out)) hb); have n6_ := Aside0.mk (hbox); have n7_ := Aside0.mk ((by rw [hg]; exact (below_size (by repeat (first | (with_reducible first | exact HB.out | apply below_alloc | apply pw_below_drewN | apply below_drew1 | refine below_set ?_ GE505.out) | exact HB.out))) : w.heap.size ≤ gb506)); have n8_ := Aside0.mk ((by rw [hg]; exact (below_size (by repeat (first | (with_reducible first | exact HB.out | apply below_alloc | apply pw_below_drewN | apply below_drew1 | refine below_set ?_ GE505.out) | exact HB.out))) : w.heap.size ≤ gb506)); have n9_ := Aside0.mk ((by rw [hg]; exact Nat.ne_of_lt (blk_lt (g := gb505) (o := .cells #[.slice none 0 0] 25 (0, 0)) (by (with_reducible repeat (first | refine blk_drewN ?_ _ | refine blk_drew ?_ | refine blk_alloc ?_ _)); exact BK505.out)) : gb505 ≠ gb506)); have n10_ := Aside0.mk ((by rw [hg]; exact Nat.ne_of_gt (blk_lt (g := gb505) (o := .cells #[.slice none 0 0] 25 (0, 0)) (by (with_reducible repeat (first | refine blk_drewN ?_ _ | refine blk_drew ?_ | refine blk_alloc ?_ _)); exact BK505.out)) : gb506 ≠ gb505)); clear HO495; clear HO498; clear HO501; clear HO504; clear BK505; clear HB; have HO495 := n0_; have HO498 := n1_; have HO501 := n2_; have HO504 := n3_; have BK505 := n4_; have HB := n5_; have BK506 := n6_; have GW506 := n7_; have GE506 := n8_; have NB505_506 := n9_; have NB506_505 := n10_; clear n0_ n1_ n2_ n3_ n4_ n5_ n6_ n7_ n8_ n9_ n10_; clear hb hbox hg; obtain ⟨Ao35, co35, eo35⟩ := Kd.R_slice HO501.out; subst eo35; have hnb36 := NB505_506.out; have hnc36 := NB506_505.out; have hcz37_0 : w34.cell? ⟨gb505, 0, none⟩ = some (.slice none 0 0) := (blk_cell BK505.out 0).trans rfl; have hfz37_0 := blk_frozen BK505.out 0; obtain ⟨Ao38, co38, eo38⟩ := Kd.R_slice HO504.out; subst eo38; have hcz39_0 : w34.cell? ⟨gb506, 0, none⟩ = some (.slice none 0 0) := (blk_cell BK506.out 0).trans rfl; have hfz39_0 := blk_frozen BK506.out 0) | ((with_reducible refine gate_callee (f := 18) rfl ?_); refine goesL_ (some 21) rfl rfl Try.func18 (by kernel_rfl) rfl #[.slice Ao29 t493.length co29] rfl (by (try simp only [List.map_toArray, List.map_cons, List.map_nil]); first | done | rfl | (simp only [List.length_drop, List.length_take]; rfl)) ?_; (with_reducible refine (numeraryref02_Made.calls k _ _ t493 t507 _ ?side1 ?side2 A7.out).mono ?_); (case side1 => exact (Kd.V_reads' (e := 23) (base := w.heap.size) (n := t493.length) (c := co29) (by (with_reducible repeat (first | apply Kd.V_alloc | apply Kd.V_drewN | apply Kd.V_drew)); exact (Kd.V_mono (Kd.V_mono (Kd.V_far (p := ⟨gb506, 0, none⟩) (Kd.V_far (p := ⟨gb505, 0, none⟩) (Kd.V_mono (Kd.V_mono HO495.out (fun k_ hk => (⟨hk, hk.1.2⟩ : _ ∧ k_ ≠ gb505))) (fun k_ hk => (⟨hk, hk.1.2⟩ : _ ∧ k_ ≠ gb506))) (fun _ hk => hk.1.2) (.slice Ao35 t499.length co35)) (fun _ hk => hk.2) (.slice Ao38 t502.length co38)) (fun _ h_ => h_.1)) (fun _ h_ => h_.1)))).2.2); (case side2 => exact (Kd.V_reads' HO495.out).2.1); rintro e w40 ⟨v508, rfl, ho0, hb⟩; refine ⟨_, rfl, ?_⟩; have n0_ := Aside0.mk (Kd.V_elder' (by (with_reducible repeat (first | apply Kd.V_alloc | apply Kd.V_drewN | apply Kd.V_drew)); exact (Kd.V_mono (Kd.V_mono (Kd.V_far (p := ⟨gb506, 0, none⟩) (Kd.V_far (p := ⟨gb505, 0, none⟩) (Kd.V_mono (Kd.V_mono HO495.out (fun k_ hk => (⟨hk, hk.1.2⟩ : _ ∧ k_ ≠ gb505))) (fun k_ hk => (⟨hk, hk.1.2⟩ : _ ∧ k_ ≠ gb506))) (fun _ hk => hk.1.2) (.slice Ao35 t499.length co35)) (fun _ hk => hk.2) (.slice Ao38 t502.length co38)) (fun _ h_ => h_.1)) (fun _ h_ => h_.1))) (Kd.R_base ho0) hb); have n1_ := Aside0.mk (Kd.V_elder' (by (with_reducible repeat (first | apply Kd.V_alloc | apply Kd.V_drewN | apply Kd.V_drew)); exact (Kd.V_mono (Kd.V_mono (Kd.V_far (p := ⟨gb506, 0, none⟩) (Kd.V_far (p := ⟨gb505, 0, none⟩) (Kd.V_mono (Kd.V_mono HO498.out (fun k_ hk => (⟨hk, hk.1.2⟩ : _ ∧ k_ ≠ gb505))) (fun k_ hk => (⟨hk, hk.1.2⟩ : _ ∧ k_ ≠ gb506))) (fun _ hk => hk.1.2) (.slice Ao35 t499.length co35)) (fun _ hk => hk.2) (.slice Ao38 t502.length co38)) (fun _ h_ => h_.1)) (fun _ h_ => h_.1))) (Kd.R_base ho0) hb); have n2_ := Aside0.mk (Kd.R_below (by (with_reducible repeat (first | apply Kd.R_alloc | apply Kd.R_drewN | apply Kd.R_drew)); exact (Kd.R_mono (Kd.R_mono (Kd.R_far (p := ⟨gb506, 0, none⟩) (Kd.R_far (p := ⟨gb505, 0, none⟩) (Kd.R_types (Kd.R_types HO501.out BK505.out (by decide)) BK506.out (by decide)) (fun _ hk => hk.1.2) (.slice Ao35 t499.length co35)) (fun _ hk => hk.2) (.slice Ao38 t502.length co38)) (fun _ h_ => h_.1)) (fun _ h_ => h_.1))) hb); have n3_ := Aside0.mk (Kd.R_below (by (with_reducible repeat (first | apply Kd.R_alloc | apply Kd.R_drewN | apply Kd.R_drew)); exact (Kd.R_mono (Kd.R_mono (Kd.R_far (p := ⟨gb506, 0, none⟩) (Kd.R_far (p := ⟨gb505, 0, none⟩) (Kd.R_types (Kd.R_types HO504.out BK505.out (by decide)) BK506.out (by decide)) (fun _ hk => hk.1.2) (.slice Ao35 t499.length co35)) (fun _ hk => hk.2) (.slice Ao38 t502.length co38)) (fun _ h_ => h_.1)) (fun _ h_ => h_.1))) hb); have n4_ := Aside0.mk (Kd.R_lower ho0 (below_size (by repeat (first | (with_reducible first | exact HB.out | apply below_alloc | apply pw_below_drewN | apply below_drew1 | refine below_set ?_ GE505.out | refine below_set ?_ GE506.out) | exact HB.out)))); have n5_ := Aside0.mk (blk_below (g := gb505) (o := .cells #[.slice Ao35 t499.length co35] 25 (0, 0)) (by (with_reducible repeat (first | refine blk_drewN ?_ _ | refine blk_drew ?_ | refine blk_alloc ?_ _)); refine blk_far ?_ NB505_506.out _; (with_reducible repeat (first | refine blk_drewN ?_ _ | refine blk_drew ?_ | refine blk_alloc ?_ _)); refine blk_put (cs := #[.slice none 0 0]) ?_ 0 _ rfl; (with_reducible repeat (first | refine blk_drewN ?_ _ | refine blk_drew ?_ | refine blk_alloc ?_ _)); exact BK505.out) hb); have n6_ := Aside0.mk (blk_below (g := gb506) (o := .cells #[.slice Ao38 t502.length co38] 25 (0, 0)) (by (with_reducible repeat (first | refine blk_drewN ?_ _ | refine blk_drew ?_ | refine blk_alloc ?_ _)); refine blk_put (cs := #[.slice none 0 0]) ?_ 0 _ rfl; (with_reducible repeat (first | refine blk_drewN ?_ _ | refine blk_drew ?_ | refine blk_alloc ?_ _)); refine blk_far ?_ NB506_505.out _; (with_reducible repeat (first | refine blk_drewN ?_ _ | refine blk_drew ?_ | refine blk_alloc ?_ _)); exact BK506.out) hb); have n7_ := Aside0.mk (below_step (by repeat (first | (with_reducible first | exact HB.out | apply below_alloc | apply pw_below_drewN | apply below_drew1 | refine below_set ?_ GE505.out | refine below_set ?_ GE506.out) | exact HB.out)) hb); clear HO495; clear HO498; clear HO501; clear HO504; clear BK505; clear BK506; clear HB; have HO495 := n0_; have HO498 := n1_; have HO501 := n2_; have HO504 := n3_; have HO509 := n4_; have BK505 := n5_; have BK506 := n6_; have HB := n7_; clear n0_ n1_ n2_ n3_ n4_ n5_ n6_ n7_; (try clear hb); (try clear hb2); (try clear hk); (try clear hi); (try clear ho0)) | ((with_reducible refine gate_callee (f := 18) rfl ?_); refine goesL_ (some 23) rfl rfl Try.func18 (by kernel_rfl) rfl #[.slice Ao31 t496.length co31] rfl (by (try simp only [List.map_toArray, List.map_cons, List.map_nil]); first | done | rfl | (simp only [List.length_drop, List.length_take]; rfl)) ?_; (with_reducible refine (numeraryref02_Made.calls k _ _ t496 t510 _ ?side1 ?side2 A8.out).mono ?_); (case side1 => repeat (first | exact (Kd.V_reads' HO498.out).2.2 | (with_reducible refine Kd.C_alloc ?_ _) | (with_reducible refine Kd.C_drewN ?_ _) | (with_reducible refine Kd.C_drew ?_))); (case side2 => exact (Kd.V_reads' HO498.out).2.1); rintro e w41 ⟨v511, rfl, ho0, hb⟩; refine ⟨_, rfl, ?_⟩; have n0_ := Aside0.mk (Kd.V_elder' (by (with_reducible repeat (first | apply Kd.V_alloc | apply Kd.V_drewN | apply Kd.V_drew)); exact HO495.out) (Kd.R_base ho0) hb); have n1_ := Aside0.mk (Kd.V_elder' (by (with_reducible repeat (first | apply Kd.V_alloc | apply Kd.V_drewN | apply Kd.V_drew)); exact HO498.out) (Kd.R_base ho0) hb); have n2_ := Aside0.mk (Kd.R_below (by (with_reducible repeat (first | apply Kd.R_alloc | apply Kd.R_drewN | apply Kd.R_drew)); exact HO501.out) hb); have n3_ := Aside0.mk (Kd.R_below (by (with_reducible repeat (first | apply Kd.R_alloc | apply Kd.R_drewN | apply Kd.R_drew)); exact HO504.out) hb); have n4_ := Aside0.mk (Kd.R_elder' (by (with_reducible repeat (first | apply Kd.R_alloc | apply Kd.R_drewN | apply Kd.R_drew)); exact HO509.out) (Kd.R_base ho0) hb); have n5_ := Aside0.mk (Kd.R_lower (Kd.R_new' ho0 (Kd.R_lt (by (with_reducible repeat (first | apply Kd.R_alloc | apply Kd.R_drewN | apply Kd.R_drew)); exact HO509.out))) (below_size (by repeat (first | (with_reducible first | exact HB.out | apply below_alloc | apply pw_below_drewN | apply below_drew1 | refine below_set ?_ GE505.out | refine below_set ?_ GE506.out) | exact HB.out)))); have n6_ := Aside0.mk (blk_below (g := gb505) (o := .cells #[.slice Ao35 t499.length co35] 25 (0, 0)) (by (with_reducible repeat (first | refine blk_drewN ?_ _ | refine blk_drew ?_ | refine blk_alloc ?_ _)); exact BK505.out) hb); have n7_ := Aside0.mk (blk_below (g := gb506) (o := .cells #[.slice Ao38 t502.length co38] 25 (0, 0)) (by (with_reducible repeat (first | refine blk_drewN ?_ _ | refine blk_drew ?_ | refine blk_alloc ?_ _)); exact BK506.out) hb); have n8_ := Aside0.mk (below_step (by repeat (first | (with_reducible first | exact HB.out | apply below_alloc | apply pw_below_drewN | apply below_drew1 | refine below_set ?_ GE505.out | refine below_set ?_ GE506.out) | exact HB.out)) hb); clear HO495; clear HO498; clear HO501; clear HO504; clear HO509; clear BK505; clear BK506; clear HB; have HO495 := n0_; have HO498 := n1_; have HO501 := n2_; have HO504 := n3_; have HO509 := n4_; have HO512 := n5_; have BK505 := n6_; have BK506 := n7_; have HB := n8_; clear n0_ n1_ n2_ n3_ n4_ n5_ n6_ n7_ n8_; (try clear hb); (try clear hb2); (try clear hk); (try clear hi); (try clear ho0); obtain ⟨Ao42, co42, eo42⟩ := Kd.R_slice HO509.out; subst eo42; obtain ⟨Ao43, co43, eo43⟩ := Kd.R_slice HO512.out; subst eo43) | ((with_reducible refine gate_callee (f := 22) rfl ?_); refine goesL_ (some 26) rfl rfl Try.func22 (by kernel_rfl) rfl #[.slice Ao42 t507.length co42, .slice Ao43 t510.length co43] rfl (by (try simp only [List.map_toArray, List.map_cons, List.map_nil]); first | done | rfl | (simp only [List.length_drop, List.length_take]; rfl)) ?_; (with_reducible refine (numeraryref02_Cmp.calls k _ _ t507 _ _ t510 t513 _ ?side1 ?side2 ?side3 ?side4 A9.out).mono ?_); (case side1 => repeat (first | exact (Kd.R_reads' HO509.out).2.2 | (with_reducible refine Kd.C_alloc ?_ _) | (with_reducible refine Kd.C_drewN ?_ _) | (with_reducible refine Kd.C_drew ?_))); (case side2 => exact (Kd.R_reads' HO509.out).2.1); (case side3 => repeat (first | exact (Kd.R_reads' HO512.out).2.2 | (with_reducible refine Kd.C_alloc ?_ _) | (with_reducible refine Kd.C_drewN ?_ _) | (with_reducible refine Kd.C_drew ?_))); (case side4 => exact (Kd.R_reads' HO512.out).2.1); rintro e w' ⟨rfl, ⟨nd, rfl⟩⟩; refine ⟨_, rfl, ?_⟩; (try (rw [drewN_self w41]; generalize hq_ : World.drewN w41 _ = w41; have n0_ : Aside0 (Kd.V (Kd.int .u32) 23 w41 w.heap.size (fun k_ => some k_ ≠ (.slice Ao35 t499.length co35 : Value).ownBlock ∧ some k_ ≠ (.slice Ao38 t502.length co38 : Value).ownBlock ∧ some k_ ≠ (.slice Ao42 t507.length co42 : Value).ownBlock ∧ some k_ ≠ (.slice Ao43 t510.length co43 : Value).ownBlock ∧ k_ ≠ gb505 ∧ k_ ≠ gb506) (.slice Ao29 t493.length co29) t493) := ⟨by rw [← hq_]; exact (by (with_reducible repeat (first | apply Kd.V_alloc | apply Kd.V_drewN | apply Kd.V_drew)); exact Kd.V_mono HO495.out (fun _ hk => ⟨hk.1.1.1.1.1.2, ⟨hk.1.1.1.1.2, ⟨hk.1.2, ⟨hk.2, ⟨hk.1.1.1.2, hk.1.1.2⟩⟩⟩⟩⟩))⟩; have n1_ : Aside0 (Kd.V (Kd.int .u32) 23 w41 w.heap.size (fun k_ => some k_ ≠ (.slice Ao35 t499.length co35 : Value).ownBlock ∧ some k_ ≠ (.slice Ao38 t502.length co38 : Value).ownBlock ∧ some k_ ≠ (.slice Ao42 t507.length co42 : Value).ownBlock ∧ some k_ ≠ (.slice Ao43 t510.length co43 : Value).ownBlock ∧ k_ ≠ gb505 ∧ k_ ≠ gb506) (.slice Ao31 t496.length co31) t496) := ⟨by rw [← hq_]; exact (by (with_reducible repeat (first | apply Kd.V_alloc | apply Kd.V_drewN | apply Kd.V_drew)); exact Kd.V_mono HO498.out (fun _ hk => ⟨hk.1.1.1.1.1.2, ⟨hk.1.1.1.1.2, ⟨hk.1.2, ⟨hk.2, ⟨hk.1.1.1.2, hk.1.1.2⟩⟩⟩⟩⟩))⟩; have n2_ : Aside0 (Kd.R (Kd.int .u32) 23 w41 w.heap.size (fun k_ => some k_ ≠ (.slice Ao38 t502.length co38 : Value).ownBlock) (.slice Ao35 t499.length co35) t499) := ⟨by rw [← hq_]; exact (by (with_reducible repeat (first | apply Kd.R_alloc | apply Kd.R_drewN | apply Kd.R_drew)); exact Kd.R_mono HO501.out (fun _ hk => hk.2))⟩; have n3_ : Aside0 (Kd.R (Kd.int .u32) 23 w41 w.heap.size (fun k_ => some k_ ≠ (.slice Ao35 t499.length co35 : Value).ownBlock) (.slice Ao38 t502.length co38) t502) := ⟨by rw [← hq_]; exact (by (with_reducible repeat (first | apply Kd.R_alloc | apply Kd.R_drewN | apply Kd.R_drew)); exact Kd.R_mono HO504.out (fun _ hk => hk.2))⟩; have n4_ : Aside0 (Kd.R (Kd.int .i64) 3 w41 w.heap.size (fun k_ => some k_ ≠ (.slice Ao43 t510.length co43 : Value).ownBlock) (.slice Ao42 t507.length co42) t507) := ⟨by rw [← hq_]; exact (by (with_reducible repeat (first | apply Kd.R_alloc | apply Kd.R_drewN | apply Kd.R_drew)); exact Kd.R_mono HO509.out (fun _ hk => hk.2))⟩; have n5_ : Aside0 (Kd.R (Kd.int .i64) 3 w41 w.heap.size (fun k_ => some k_ ≠ (.slice Ao42 t507.length co42 : Value).ownBlock) (.slice Ao43 t510.length co43) t510) := ⟨by rw [← hq_]; exact (by (with_reducible repeat (first | apply Kd.R_alloc | apply Kd.R_drewN | apply Kd.R_drew)); exact Kd.R_mono HO512.out (fun _ hk => hk.2))⟩; have n6_ : Aside0 (w41.heap[gb505]? = some (.cells #[.slice Ao35 t499.length co35] 25 (0, 0))) := ⟨by rw [← hq_]; exact (by (with_reducible repeat (first | refine blk_drewN ?_ _ | refine blk_drew ?_ | refine blk_alloc ?_ _)); exact BK505.out)⟩; have n7_ : Aside0 (w41.heap[gb506]? = some (.cells #[.slice Ao38 t502.length co38] 25 (0, 0))) := ⟨by rw [← hq_]; exact (by (with_reducible repeat (first | refine blk_drewN ?_ _ | refine blk_drew ?_ | refine blk_alloc ?_ _)); exact BK506.out)⟩; have n8_ : Aside0 (Below w.heap.size w w41) := ⟨by rw [← hq_]; exact (by repeat (first | (with_reducible first | exact HB.out | apply below_alloc | apply pw_below_drewN | apply below_drew1 | refine below_set ?_ GE505.out | refine below_set ?_ GE506.out) | exact HB.out))⟩; clear HO495 HO498 HO501 HO504 HO509 HO512 BK505 BK506 HB hq_; have HO495 := n0_; have HO498 := n1_; have HO501 := n2_; have HO504 := n3_; have HO509 := n4_; have HO512 := n5_; have BK505 := n6_; have BK506 := n7_; have HB := n8_; clear n0_ n1_ n2_ n3_ n4_ n5_ n6_ n7_ n8_)); have hcz44_0 : w41.cell? ⟨gb505, 0, none⟩ = some (.slice Ao35 t499.length co35) := (blk_cell BK505.out 0).trans rfl; have hfz44_0 := blk_frozen BK505.out 0; have hcz45_0 : w41.cell? ⟨gb506, 0, none⟩ = some (.slice Ao38 t502.length co38) := (blk_cell BK506.out 0).trans rfl; have hfz45_0 := blk_frozen BK506.out 0) | ((with_reducible refine gate_callee (f := 36) rfl ?_); refine goesL_ (some 30) rfl rfl Try.func36 (by kernel_rfl) rfl #[.agg #[.slice Ao35 t499.length co35], .agg #[.slice Ao38 t502.length co38]] rfl (by (try simp only [List.map_toArray, List.map_cons, List.map_nil]); first | done | rfl | (simp only [List.length_drop, List.length_take]; rfl)) ?_; (with_reducible refine (nat_Sub.calls k _ _ t499 _ _ t502 t514 true _ ?side1 ?side2 ?side3 ?side4 A10.out).mono ?_); (case side1 => repeat (first | exact (Kd.R_reads' HO501.out).2.2 | (with_reducible refine Kd.C_alloc ?_ _) | (with_reducible refine Kd.C_drewN ?_ _) | (with_reducible refine Kd.C_drew ?_))); (case side2 => exact (Kd.R_reads' HO501.out).2.1); (case side3 => repeat (first | exact (Kd.R_reads' HO504.out).2.2 | (with_reducible refine Kd.C_alloc ?_ _) | (with_reducible refine Kd.C_drewN ?_ _) | (with_reducible refine Kd.C_drew ?_))); (case side4 => exact (Kd.R_reads' HO504.out).2.1); rintro e w46 ⟨v515, rfl, ho0, hb⟩; refine ⟨_, rfl, ?_⟩; have n0_ := Aside0.mk (Kd.V_elder' (by (with_reducible repeat (first | apply Kd.V_alloc | apply Kd.V_drewN | apply Kd.V_drew)); exact HO495.out) (Kd.R_base ho0) hb); have n1_ := Aside0.mk (Kd.V_elder' (by (with_reducible repeat (first | apply Kd.V_alloc | apply Kd.V_drewN | apply Kd.V_drew)); exact HO498.out) (Kd.R_base ho0) hb); have n2_ := Aside0.mk (Kd.R_elder' (by (with_reducible repeat (first | apply Kd.R_alloc | apply Kd.R_drewN | apply Kd.R_drew)); exact HO501.out) (Kd.R_base ho0) hb); have n3_ := Aside0.mk (Kd.R_elder' (by (with_reducible repeat (first | apply Kd.R_alloc | apply Kd.R_drewN | apply Kd.R_drew)); exact HO504.out) (Kd.R_base ho0) hb); have n4_ := Aside0.mk (Kd.R_below (by (with_reducible repeat (first | apply Kd.R_alloc | apply Kd.R_drewN | apply Kd.R_drew)); exact HO509.out) hb); have n5_ := Aside0.mk (Kd.R_below (by (with_reducible repeat (first | apply Kd.R_alloc | apply Kd.R_drewN | apply Kd.R_drew)); exact HO512.out) hb); have n6_ := Aside0.mk (Kd.R_lower (Kd.R_new' (Kd.R_new' ho0 (Kd.R_lt (by (with_reducible repeat (first | apply Kd.R_alloc | apply Kd.R_drewN | apply Kd.R_drew)); exact HO501.out))) (Kd.R_lt (by (with_reducible repeat (first | apply Kd.R_alloc | apply Kd.R_drewN | apply Kd.R_drew)); exact HO504.out))) (below_size (by repeat (first | (with_reducible first | exact HB.out | apply below_alloc | apply pw_below_drewN | apply below_drew1 | refine below_set ?_ GE505.out | refine below_set ?_ GE506.out) | exact HB.out)))); have n7_ := Aside0.mk (blk_below (g := gb505) (o := .cells #[.slice Ao35 t499.length co35] 25 (0, 0)) (by (with_reducible repeat (first | refine blk_drewN ?_ _ | refine blk_drew ?_ | refine blk_alloc ?_ _)); exact BK505.out) hb); have n8_ := Aside0.mk (blk_below (g := gb506) (o := .cells #[.slice Ao38 t502.length co38] 25 (0, 0)) (by (with_reducible repeat (first | refine blk_drewN ?_ _ | refine blk_drew ?_ | refine blk_alloc ?_ _)); exact BK506.out) hb); have n9_ := Aside0.mk (below_step (by repeat (first | (with_reducible first | exact HB.out | apply below_alloc | apply pw_below_drewN | apply below_drew1 | refine below_set ?_ GE505.out | refine below_set ?_ GE506.out) | exact HB.out)) hb); clear HO495; clear HO498; clear HO501; clear HO504; clear HO509; clear HO512; clear BK505; clear BK506; clear HB; have HO495 := n0_; have HO498 := n1_; have HO501 := n2_; have HO504 := n3_; have HO509 := n4_; have HO512 := n5_; have HO516 := n6_; have BK505 := n7_; have BK506 := n8_; have HB := n9_; clear n0_ n1_ n2_ n3_ n4_ n5_ n6_ n7_ n8_ n9_; (try clear hb); (try clear hb2); (try clear hk); (try clear hi); (try clear ho0)) | ((with_reducible refine gate_dst (N := 10) rfl ?_); (try (refine gate_guard (by rfl) ?_; dsimp only)); refine box_event ?hg (N := 10) ?hd (cs := #[.slice none 0 0]) (t := 25) ?hr ?_; (case hd => rfl); (case hg => rfl); (case hr => first | (go_simp; done) | (go_simp; rfl)); intro gb518 hg w47 hbox hb; have n0_ := Aside0.mk (Kd.V_below (Kd.V_elderB (by (with_reducible repeat (first | apply Kd.V_alloc | apply Kd.V_drewN | apply Kd.V_drew)); exact HO495.out) gb518 (Nat.le_of_eq hg.symm)) hb); have n1_ := Aside0.mk (Kd.V_below (Kd.V_elderB (by (with_reducible repeat (first | apply Kd.V_alloc | apply Kd.V_drewN | apply Kd.V_drew)); exact HO498.out) gb518 (Nat.le_of_eq hg.symm)) hb); have n2_ := Aside0.mk (Kd.R_below (by (with_reducible repeat (first | apply Kd.R_alloc | apply Kd.R_drewN | apply Kd.R_drew)); exact HO501.out) hb); have n3_ := Aside0.mk (Kd.R_below (by (with_reducible repeat (first | apply Kd.R_alloc | apply Kd.R_drewN | apply Kd.R_drew)); exact HO504.out) hb); have n4_ := Aside0.mk (Kd.R_below (by (with_reducible repeat (first | apply Kd.R_alloc | apply Kd.R_drewN | apply Kd.R_drew)); exact HO509.out) hb); have n5_ := Aside0.mk (Kd.R_below (by (with_reducible repeat (first | apply Kd.R_alloc | apply Kd.R_drewN | apply Kd.R_drew)); exact HO512.out) hb); have n6_ := Aside0.mk (Kd.R_below (by (with_reducible repeat (first | apply Kd.R_alloc | apply Kd.R_drewN | apply Kd.R_drew)); exact HO516.out) hb); have n7_ := Aside0.mk (blk_below (g := gb505) (o := .cells #[.slice Ao35 t499.length co35] 25 (0, 0)) (by (with_reducible repeat (first | refine blk_drewN ?_ _ | refine blk_drew ?_ | refine blk_alloc ?_ _)); exact BK505.out) hb); have n8_ := Aside0.mk (blk_below (g := gb506) (o := .cells #[.slice Ao38 t502.length co38] 25 (0, 0)) (by (with_reducible repeat (first | refine blk_drewN ?_ _ | refine blk_drew ?_ | refine blk_alloc ?_ _)); exact BK506.out) hb); have n9_ := Aside0.mk (below_step (by repeat (first | (with_reducible first | exact HB.out | apply below_alloc | apply pw_below_drewN | apply below_drew1 | refine below_set ?_ GE505.out | refine below_set ?_ GE506.out) | exact HB.out)) hb); have n10_ := Aside0.mk (hbox); have n11_ := Aside0.mk ((by rw [hg]; exact (below_size (by repeat (first | (with_reducible first | exact HB.out | apply below_alloc | apply pw_below_drewN | apply below_drew1 | refine below_set ?_ GE505.out | refine below_set ?_ GE506.out) | exact HB.out))) : w.heap.size ≤ gb518)); have n12_ := Aside0.mk ((by rw [hg]; exact (below_size (by repeat (first | (with_reducible first | exact HB.out | apply below_alloc | apply pw_below_drewN | apply below_drew1 | refine below_set ?_ GE505.out | refine below_set ?_ GE506.out) | exact HB.out))) : w.heap.size ≤ gb518)); have n13_ := Aside0.mk ((by rw [hg]; exact Nat.ne_of_lt (blk_lt (g := gb505) (o := .cells #[.slice Ao35 t499.length co35] 25 (0, 0)) (by (with_reducible repeat (first | refine blk_drewN ?_ _ | refine blk_drew ?_ | refine blk_alloc ?_ _)); exact BK505.out)) : gb505 ≠ gb518)); have n14_ := Aside0.mk ((by rw [hg]; exact Nat.ne_of_gt (blk_lt (g := gb505) (o := .cells #[.slice Ao35 t499.length co35] 25 (0, 0)) (by (with_reducible repeat (first | refine blk_drewN ?_ _ | refine blk_drew ?_ | refine blk_alloc ?_ _)); exact BK505.out)) : gb518 ≠ gb505)); have n15_ := Aside0.mk ((by rw [hg]; exact Nat.ne_of_lt (blk_lt (g := gb506) (o := .cells #[.slice Ao38 t502.length co38] 25 (0, 0)) (by (with_reducible repeat (first | refine blk_drewN ?_ _ | refine blk_drew ?_ | refine blk_alloc ?_ _)); exact BK506.out)) : gb506 ≠ gb518)); have n16_ := Aside0.mk ((by rw [hg]; exact Nat.ne_of_gt (blk_lt (g := gb506) (o := .cells #[.slice Ao38 t502.length co38] 25 (0, 0)) (by (with_reducible repeat (first | refine blk_drewN ?_ _ | refine blk_drew ?_ | refine blk_alloc ?_ _)); exact BK506.out)) : gb518 ≠ gb506)); clear HO495; clear HO498; clear HO501; clear HO504; clear HO509; clear HO512; clear HO516; clear BK505; clear BK506; clear HB; have HO495 := n0_; have HO498 := n1_; have HO501 := n2_; have HO504 := n3_; have HO509 := n4_; have HO512 := n5_; have HO516 := n6_; have BK505 := n7_; have BK506 := n8_; have HB := n9_; have BK518 := n10_; have GW518 := n11_; have GE518 := n12_; have NB505_518 := n13_; have NB518_505 := n14_; have NB506_518 := n15_; have NB518_506 := n16_; clear n0_ n1_ n2_ n3_ n4_ n5_ n6_ n7_ n8_ n9_ n10_ n11_ n12_ n13_ n14_ n15_ n16_; clear hb hbox hg; obtain ⟨Ao48, co48, eo48⟩ := Kd.R_slice HO516.out; subst eo48; have hnb49 := NB518_505.out; have hnc49 := NB505_518.out; have hnb50 := NB518_506.out; have hnc50 := NB506_518.out; have hcz51_0 : w47.cell? ⟨gb518, 0, none⟩ = some (.slice none 0 0) := (blk_cell BK518.out 0).trans rfl; have hfz51_0 := blk_frozen BK518.out 0; have hcz52_0 : w47.cell? ⟨gb505, 0, none⟩ = some (.slice Ao35 t499.length co35) := (blk_cell BK505.out 0).trans rfl; have hfz52_0 := blk_frozen BK505.out 0; have hcz53_0 : w47.cell? ⟨gb506, 0, none⟩ = some (.slice Ao38 t502.length co38) := (blk_cell BK506.out 0).trans rfl; have hfz53_0 := blk_frozen BK506.out 0) | ((with_reducible refine gate_callee (f := 37) rfl ?_); refine goesL_ (some 35) rfl rfl Try.func37 (by kernel_rfl) rfl #[.agg #[.slice Ao35 t499.length co35], .agg #[.slice Ao38 t502.length co38]] rfl (by (try simp only [List.map_toArray, List.map_cons, List.map_nil]); first | done | rfl | (simp only [List.length_drop, List.length_take]; rfl)) ?_; (with_reducible refine (nat_Cmp.calls k _ _ t499 _ _ t502 t519 _ ?side1 ?side2 ?side3 ?side4 A11.out).mono ?_); (case side1 => exact (Kd.R_reads' (e := 23) (base := w.heap.size) (n := t499.length) (c := co35) (by (with_reducible repeat (first | apply Kd.R_alloc | apply Kd.R_drewN | apply Kd.R_drew)); exact (Kd.R_mono (Kd.R_far (p := ⟨gb518, 0, none⟩) (Kd.R_types HO501.out BK518.out (by decide)) (fun _ hk => hk.2) (.slice Ao48 t514.length co48)) (fun _ h_ => h_.1)))).2.2); (case side2 => exact (Kd.R_reads' HO501.out).2.1); (case side3 => exact (Kd.R_reads' (e := 23) (base := w.heap.size) (n := t502.length) (c := co38) (by (with_reducible repeat (first | apply Kd.R_alloc | apply Kd.R_drewN | apply Kd.R_drew)); exact (Kd.R_mono (Kd.R_far (p := ⟨gb518, 0, none⟩) (Kd.R_types HO504.out BK518.out (by decide)) (fun _ hk => hk.2) (.slice Ao48 t514.length co48)) (fun _ h_ => h_.1)))).2.2); (case side4 => exact (Kd.R_reads' HO504.out).2.1); rintro e w54 ⟨rfl, hb⟩; refine ⟨_, rfl, ?_⟩; have n0_ := Aside0.mk (Kd.V_below (by (with_reducible repeat (first | apply Kd.V_alloc | apply Kd.V_drewN | apply Kd.V_drew)); exact (Kd.V_mono (Kd.V_far (p := ⟨gb518, 0, none⟩) (Kd.V_mono HO495.out (fun k_ hk => (⟨hk, hk.2⟩ : _ ∧ k_ ≠ gb518))) (fun _ hk => hk.2) (.slice Ao48 t514.length co48)) (fun _ h_ => h_.1))) hb); have n1_ := Aside0.mk (Kd.V_below (by (with_reducible repeat (first | apply Kd.V_alloc | apply Kd.V_drewN | apply Kd.V_drew)); exact (Kd.V_mono (Kd.V_far (p := ⟨gb518, 0, none⟩) (Kd.V_mono HO498.out (fun k_ hk => (⟨hk, hk.2⟩ : _ ∧ k_ ≠ gb518))) (fun _ hk => hk.2) (.slice Ao48 t514.length co48)) (fun _ h_ => h_.1))) hb); have n2_ := Aside0.mk (Kd.R_below (by (with_reducible repeat (first | apply Kd.R_alloc | apply Kd.R_drewN | apply Kd.R_drew)); exact (Kd.R_mono (Kd.R_far (p := ⟨gb518, 0, none⟩) (Kd.R_types HO501.out BK518.out (by decide)) (fun _ hk => hk.2) (.slice Ao48 t514.length co48)) (fun _ h_ => h_.1))) hb); have n3_ := Aside0.mk (Kd.R_below (by (with_reducible repeat (first | apply Kd.R_alloc | apply Kd.R_drewN | apply Kd.R_drew)); exact (Kd.R_mono (Kd.R_far (p := ⟨gb518, 0, none⟩) (Kd.R_types HO504.out BK518.out (by decide)) (fun _ hk => hk.2) (.slice Ao48 t514.length co48)) (fun _ h_ => h_.1))) hb); have n4_ := Aside0.mk (Kd.R_below (by (with_reducible repeat (first | apply Kd.R_alloc | apply Kd.R_drewN | apply Kd.R_drew)); exact (Kd.R_mono (Kd.R_far (p := ⟨gb518, 0, none⟩) (Kd.R_types HO509.out BK518.out (by decide)) (fun _ hk => hk.2) (.slice Ao48 t514.length co48)) (fun _ h_ => h_.1))) hb); have n5_ := Aside0.mk (Kd.R_below (by (with_reducible repeat (first | apply Kd.R_alloc | apply Kd.R_drewN | apply Kd.R_drew)); exact (Kd.R_mono (Kd.R_far (p := ⟨gb518, 0, none⟩) (Kd.R_types HO512.out BK518.out (by decide)) (fun _ hk => hk.2) (.slice Ao48 t514.length co48)) (fun _ h_ => h_.1))) hb); have n6_ := Aside0.mk (Kd.R_below (by (with_reducible repeat (first | apply Kd.R_alloc | apply Kd.R_drewN | apply Kd.R_drew)); exact (Kd.R_mono (Kd.R_far (p := ⟨gb518, 0, none⟩) (Kd.R_types HO516.out BK518.out (by decide)) (fun _ hk => hk.2) (.slice Ao48 t514.length co48)) (fun _ h_ => h_.1))) hb); have n7_ := Aside0.mk (blk_below (g := gb505) (o := .cells #[.slice Ao35 t499.length co35] 25 (0, 0)) (by (with_reducible repeat (first | refine blk_drewN ?_ _ | refine blk_drew ?_ | refine blk_alloc ?_ _)); refine blk_far ?_ NB505_518.out _; (with_reducible repeat (first | refine blk_drewN ?_ _ | refine blk_drew ?_ | refine blk_alloc ?_ _)); exact BK505.out) hb); have n8_ := Aside0.mk (blk_below (g := gb506) (o := .cells #[.slice Ao38 t502.length co38] 25 (0, 0)) (by (with_reducible repeat (first | refine blk_drewN ?_ _ | refine blk_drew ?_ | refine blk_alloc ?_ _)); refine blk_far ?_ NB506_518.out _; (with_reducible repeat (first | refine blk_drewN ?_ _ | refine blk_drew ?_ | refine blk_alloc ?_ _)); exact BK506.out) hb); have n9_ := Aside0.mk (blk_below (g := gb518) (o := .cells #[.slice Ao48 t514.length co48] 25 (0, 0)) (by (with_reducible repeat (first | refine blk_drewN ?_ _ | refine blk_drew ?_ | refine blk_alloc ?_ _)); refine blk_put (cs := #[.slice none 0 0]) ?_ 0 _ rfl; (with_reducible repeat (first | refine blk_drewN ?_ _ | refine blk_drew ?_ | refine blk_alloc ?_ _)); exact BK518.out) hb); have n10_ := Aside0.mk (below_step (by repeat (first | (with_reducible first | exact HB.out | apply below_alloc | apply pw_below_drewN | apply below_drew1 | refine below_set ?_ GE505.out | refine below_set ?_ GE506.out | refine below_set ?_ GE518.out) | exact HB.out)) hb); clear HO495; clear HO498; clear HO501; clear HO504; clear HO509; clear HO512; clear HO516; clear BK505; clear BK506; clear BK518; clear HB; have HO495 := n0_; have HO498 := n1_; have HO501 := n2_; have HO504 := n3_; have HO509 := n4_; have HO512 := n5_; have HO516 := n6_; have BK505 := n7_; have BK506 := n8_; have BK518 := n9_; have HB := n10_; clear n0_ n1_ n2_ n3_ n4_ n5_ n6_ n7_ n8_ n9_ n10_; (try clear hb); (try clear hb2); (try clear hk); (try clear hi); have hcz55_0 : w54.cell? ⟨gb506, 0, none⟩ = some (.slice Ao38 t502.length co38) := (blk_cell BK506.out 0).trans rfl; have hfz55_0 := blk_frozen BK506.out 0; have hcz56_0 : w54.cell? ⟨gb505, 0, none⟩ = some (.slice Ao35 t499.length co35) := (blk_cell BK505.out 0).trans rfl; have hfz56_0 := blk_frozen BK505.out 0) | (go_at_call 37; (with_reducible refine (nat_Cmp.calls k _ _ t502 _ _ t499 t520 _ ?side1 ?side2 ?side3 ?side4 A13.out).mono ?_); (case side1 => repeat (first | exact (Kd.R_reads' HO504.out).2.2 | (with_reducible refine Kd.C_alloc ?_ _) | (with_reducible refine Kd.C_drewN ?_ _) | (with_reducible refine Kd.C_drew ?_))); (case side2 => exact (Kd.R_reads' HO504.out).2.1); (case side3 => repeat (first | exact (Kd.R_reads' HO501.out).2.2 | (with_reducible refine Kd.C_alloc ?_ _) | (with_reducible refine Kd.C_drewN ?_ _) | (with_reducible refine Kd.C_drew ?_))); (case side4 => exact (Kd.R_reads' HO501.out).2.1); rintro e w57 ⟨rfl, hb⟩; have n0_ := Aside0.mk (Kd.V_below (by (with_reducible repeat (first | apply Kd.V_alloc | apply Kd.V_drewN | apply Kd.V_drew)); exact HO495.out) hb); have n1_ := Aside0.mk (Kd.V_below (by (with_reducible repeat (first | apply Kd.V_alloc | apply Kd.V_drewN | apply Kd.V_drew)); exact HO498.out) hb); have n2_ := Aside0.mk (Kd.R_below (by (with_reducible repeat (first | apply Kd.R_alloc | apply Kd.R_drewN | apply Kd.R_drew)); exact HO501.out) hb); have n3_ := Aside0.mk (Kd.R_below (by (with_reducible repeat (first | apply Kd.R_alloc | apply Kd.R_drewN | apply Kd.R_drew)); exact HO504.out) hb); have n4_ := Aside0.mk (Kd.R_below (by (with_reducible repeat (first | apply Kd.R_alloc | apply Kd.R_drewN | apply Kd.R_drew)); exact HO509.out) hb); have n5_ := Aside0.mk (Kd.R_below (by (with_reducible repeat (first | apply Kd.R_alloc | apply Kd.R_drewN | apply Kd.R_drew)); exact HO512.out) hb); have n6_ := Aside0.mk (Kd.R_below (by (with_reducible repeat (first | apply Kd.R_alloc | apply Kd.R_drewN | apply Kd.R_drew)); exact HO516.out) hb); have n7_ := Aside0.mk (blk_below (g := gb505) (o := .cells #[.slice Ao35 t499.length co35] 25 (0, 0)) (by (with_reducible repeat (first | refine blk_drewN ?_ _ | refine blk_drew ?_ | refine blk_alloc ?_ _)); exact BK505.out) hb); have n8_ := Aside0.mk (blk_below (g := gb506) (o := .cells #[.slice Ao38 t502.length co38] 25 (0, 0)) (by (with_reducible repeat (first | refine blk_drewN ?_ _ | refine blk_drew ?_ | refine blk_alloc ?_ _)); exact BK506.out) hb); have n9_ := Aside0.mk (blk_below (g := gb518) (o := .cells #[.slice Ao48 t514.length co48] 25 (0, 0)) (by (with_reducible repeat (first | refine blk_drewN ?_ _ | refine blk_drew ?_ | refine blk_alloc ?_ _)); exact BK518.out) hb); have n10_ := Aside0.mk (below_step (by repeat (first | (with_reducible first | exact HB.out | apply below_alloc | apply pw_below_drewN | apply below_drew1 | refine below_set ?_ GE505.out | refine below_set ?_ GE506.out | refine below_set ?_ GE518.out) | exact HB.out)) hb); clear HO495; clear HO498; clear HO501; clear HO504; clear HO509; clear HO512; clear HO516; clear BK505; clear BK506; clear BK518; clear HB; have HO495 := n0_; have HO498 := n1_; have HO501 := n2_; have HO504 := n3_; have HO509 := n4_; have HO512 := n5_; have HO516 := n6_; have BK505 := n7_; have BK506 := n8_; have BK518 := n9_; have HB := n10_; clear n0_ n1_ n2_ n3_ n4_ n5_ n6_ n7_ n8_ n9_ n10_; (try clear hb); (try clear hb2); (try clear hk); (try clear hi)) | ((with_reducible refine gate_callee (f := 32) rfl ?_); refine goesL_ (some 62) rfl rfl Try.func32 (by kernel_rfl) rfl #[] rfl (by (try simp only [List.map_toArray, List.map_cons, List.map_nil]); first | done | rfl | (simp only [List.length_drop, List.length_take]; rfl)) ?_; (with_reducible refine (numerarylaw02_wakes.calls k  true _ A17.out).mono ?_); rintro e w58 ⟨rfl, hb⟩; refine ⟨_, rfl, ?_⟩; have n0_ := Aside0.mk (Kd.V_below (by (with_reducible repeat (first | apply Kd.V_alloc | apply Kd.V_drewN | apply Kd.V_drew)); exact HO495.out) hb); have n1_ := Aside0.mk (Kd.V_below (by (with_reducible repeat (first | apply Kd.V_alloc | apply Kd.V_drewN | apply Kd.V_drew)); exact HO498.out) hb); have n2_ := Aside0.mk (Kd.R_below (by (with_reducible repeat (first | apply Kd.R_alloc | apply Kd.R_drewN | apply Kd.R_drew)); exact HO501.out) hb); have n3_ := Aside0.mk (Kd.R_below (by (with_reducible repeat (first | apply Kd.R_alloc | apply Kd.R_drewN | apply Kd.R_drew)); exact HO504.out) hb); have n4_ := Aside0.mk (Kd.R_below (by (with_reducible repeat (first | apply Kd.R_alloc | apply Kd.R_drewN | apply Kd.R_drew)); exact HO509.out) hb); have n5_ := Aside0.mk (Kd.R_below (by (with_reducible repeat (first | apply Kd.R_alloc | apply Kd.R_drewN | apply Kd.R_drew)); exact HO512.out) hb); have n6_ := Aside0.mk (Kd.R_below (by (with_reducible repeat (first | apply Kd.R_alloc | apply Kd.R_drewN | apply Kd.R_drew)); exact HO516.out) hb); have n7_ := Aside0.mk (blk_below (g := gb505) (o := .cells #[.slice Ao35 t499.length co35] 25 (0, 0)) (by (with_reducible repeat (first | refine blk_drewN ?_ _ | refine blk_drew ?_ | refine blk_alloc ?_ _)); exact BK505.out) hb); have n8_ := Aside0.mk (blk_below (g := gb506) (o := .cells #[.slice Ao38 t502.length co38] 25 (0, 0)) (by (with_reducible repeat (first | refine blk_drewN ?_ _ | refine blk_drew ?_ | refine blk_alloc ?_ _)); exact BK506.out) hb); have n9_ := Aside0.mk (blk_below (g := gb518) (o := .cells #[.slice Ao48 t514.length co48] 25 (0, 0)) (by (with_reducible repeat (first | refine blk_drewN ?_ _ | refine blk_drew ?_ | refine blk_alloc ?_ _)); exact BK518.out) hb); have n10_ := Aside0.mk (below_step (by repeat (first | (with_reducible first | exact HB.out | apply below_alloc | apply pw_below_drewN | apply below_drew1 | refine below_set ?_ GE505.out | refine below_set ?_ GE506.out | refine below_set ?_ GE518.out) | exact HB.out)) hb); clear HO495; clear HO498; clear HO501; clear HO504; clear HO509; clear HO512; clear HO516; clear BK505; clear BK506; clear BK518; clear HB; have HO495 := n0_; have HO498 := n1_; have HO501 := n2_; have HO504 := n3_; have HO509 := n4_; have HO512 := n5_; have HO516 := n6_; have BK505 := n7_; have BK506 := n8_; have BK518 := n9_; have HB := n10_; clear n0_ n1_ n2_ n3_ n4_ n5_ n6_ n7_ n8_ n9_ n10_; (try clear hb); (try clear hb2); (try clear hk); (try clear hi); have hcz59_0 : w58.cell? ⟨gb505, 0, none⟩ = some (.slice Ao35 t499.length co35) := (blk_cell BK505.out 0).trans rfl; have hfz59_0 := blk_frozen BK505.out 0; have hcz60_0 : w58.cell? ⟨gb506, 0, none⟩ = some (.slice Ao38 t502.length co38) := (blk_cell BK506.out 0).trans rfl; have hfz60_0 := blk_frozen BK506.out 0) | (go_at_call 38; (with_reducible refine (nat_Add.calls k _ _ t499 _ _ t502 t522 _ ?side1 ?side2 ?side3 ?side4 A19.out).mono ?_); (case side1 => repeat (first | exact (Kd.R_reads' HO501.out).2.2 | (with_reducible refine Kd.C_alloc ?_ _) | (with_reducible refine Kd.C_drewN ?_ _) | (with_reducible refine Kd.C_drew ?_))); (case side2 => exact (Kd.R_reads' HO501.out).2.1); (case side3 => repeat (first | exact (Kd.R_reads' HO504.out).2.2 | (with_reducible refine Kd.C_alloc ?_ _) | (with_reducible refine Kd.C_drewN ?_ _) | (with_reducible refine Kd.C_drew ?_))); (case side4 => exact (Kd.R_reads' HO504.out).2.1); rintro e w61 ⟨v523, rfl, ho0, hb⟩; have n0_ := Aside0.mk (Kd.V_elder' (by (with_reducible repeat (first | apply Kd.V_alloc | apply Kd.V_drewN | apply Kd.V_drew)); exact HO495.out) (Kd.R_base ho0) hb); have n1_ := Aside0.mk (Kd.V_elder' (by (with_reducible repeat (first | apply Kd.V_alloc | apply Kd.V_drewN | apply Kd.V_drew)); exact HO498.out) (Kd.R_base ho0) hb); have n2_ := Aside0.mk (Kd.R_elder' (by (with_reducible repeat (first | apply Kd.R_alloc | apply Kd.R_drewN | apply Kd.R_drew)); exact HO501.out) (Kd.R_base ho0) hb); have n3_ := Aside0.mk (Kd.R_elder' (by (with_reducible repeat (first | apply Kd.R_alloc | apply Kd.R_drewN | apply Kd.R_drew)); exact HO504.out) (Kd.R_base ho0) hb); have n4_ := Aside0.mk (Kd.R_below (by (with_reducible repeat (first | apply Kd.R_alloc | apply Kd.R_drewN | apply Kd.R_drew)); exact HO509.out) hb); have n5_ := Aside0.mk (Kd.R_below (by (with_reducible repeat (first | apply Kd.R_alloc | apply Kd.R_drewN | apply Kd.R_drew)); exact HO512.out) hb); have n6_ := Aside0.mk (Kd.R_elder' (by (with_reducible repeat (first | apply Kd.R_alloc | apply Kd.R_drewN | apply Kd.R_drew)); exact HO516.out) (Kd.R_base ho0) hb); have n7_ := Aside0.mk (Kd.R_lower (Kd.R_new' (Kd.R_new' (Kd.R_new' ho0 (Kd.R_lt (by (with_reducible repeat (first | apply Kd.R_alloc | apply Kd.R_drewN | apply Kd.R_drew)); exact HO501.out))) (Kd.R_lt (by (with_reducible repeat (first | apply Kd.R_alloc | apply Kd.R_drewN | apply Kd.R_drew)); exact HO504.out))) (Kd.R_lt (by (with_reducible repeat (first | apply Kd.R_alloc | apply Kd.R_drewN | apply Kd.R_drew)); exact HO516.out))) (below_size (by repeat (first | (with_reducible first | exact HB.out | apply below_alloc | apply pw_below_drewN | apply below_drew1 | refine below_set ?_ GE505.out | refine below_set ?_ GE506.out | refine below_set ?_ GE518.out) | exact HB.out)))); have n8_ := Aside0.mk (blk_below (g := gb505) (o := .cells #[.slice Ao35 t499.length co35] 25 (0, 0)) (by (with_reducible repeat (first | refine blk_drewN ?_ _ | refine blk_drew ?_ | refine blk_alloc ?_ _)); exact BK505.out) hb); have n9_ := Aside0.mk (blk_below (g := gb506) (o := .cells #[.slice Ao38 t502.length co38] 25 (0, 0)) (by (with_reducible repeat (first | refine blk_drewN ?_ _ | refine blk_drew ?_ | refine blk_alloc ?_ _)); exact BK506.out) hb); have n10_ := Aside0.mk (blk_below (g := gb518) (o := .cells #[.slice Ao48 t514.length co48] 25 (0, 0)) (by (with_reducible repeat (first | refine blk_drewN ?_ _ | refine blk_drew ?_ | refine blk_alloc ?_ _)); exact BK518.out) hb); have n11_ := Aside0.mk (below_step (by repeat (first | (with_reducible first | exact HB.out | apply below_alloc | apply pw_below_drewN | apply below_drew1 | refine below_set ?_ GE505.out | refine below_set ?_ GE506.out | refine below_set ?_ GE518.out) | exact HB.out)) hb); clear HO495; clear HO498; clear HO501; clear HO504; clear HO509; clear HO512; clear HO516; clear BK505; clear BK506; clear BK518; clear HB; have HO495 := n0_; have HO498 := n1_; have HO501 := n2_; have HO504 := n3_; have HO509 := n4_; have HO512 := n5_; have HO516 := n6_; have HO524 := n7_; have BK505 := n8_; have BK506 := n9_; have BK518 := n10_; have HB := n11_; clear n0_ n1_ n2_ n3_ n4_ n5_ n6_ n7_ n8_ n9_ n10_ n11_; (try clear hb); (try clear hb2); (try clear hk); (try clear hi); (try clear ho0); obtain ⟨Ao62, co62, eo62⟩ := Kd.R_slice HO524.out; subst eo62) | (go_at_call 35; (with_reducible refine (numerarylaw02_of.calls k _ _ t522 t525 _ ?side1 ?side2 A20.out).mono ?_); (case side1 => repeat (first | exact (Kd.R_reads' HO524.out).2.2 | (with_reducible refine Kd.C_alloc ?_ _) | (with_reducible refine Kd.C_drewN ?_ _) | (with_reducible refine Kd.C_drew ?_))); (case side2 => exact (Kd.R_reads' HO524.out).2.1); rintro e w63 ⟨v526, rfl, ho0, hb⟩; have n0_ := Aside0.mk (Kd.V_elder' (by (with_reducible repeat (first | apply Kd.V_alloc | apply Kd.V_drewN | apply Kd.V_drew)); exact HO495.out) (Kd.R_base ho0) hb); have n1_ := Aside0.mk (Kd.V_elder' (by (with_reducible repeat (first | apply Kd.V_alloc | apply Kd.V_drewN | apply Kd.V_drew)); exact HO498.out) (Kd.R_base ho0) hb); have n2_ := Aside0.mk (Kd.R_below (by (with_reducible repeat (first | apply Kd.R_alloc | apply Kd.R_drewN | apply Kd.R_drew)); exact HO501.out) hb); have n3_ := Aside0.mk (Kd.R_below (by (with_reducible repeat (first | apply Kd.R_alloc | apply Kd.R_drewN | apply Kd.R_drew)); exact HO504.out) hb); have n4_ := Aside0.mk (Kd.R_elder' (by (with_reducible repeat (first | apply Kd.R_alloc | apply Kd.R_drewN | apply Kd.R_drew)); exact HO509.out) (Kd.R_base ho0) hb); have n5_ := Aside0.mk (Kd.R_elder' (by (with_reducible repeat (first | apply Kd.R_alloc | apply Kd.R_drewN | apply Kd.R_drew)); exact HO512.out) (Kd.R_base ho0) hb); have n6_ := Aside0.mk (Kd.R_below (by (with_reducible repeat (first | apply Kd.R_alloc | apply Kd.R_drewN | apply Kd.R_drew)); exact HO516.out) hb); have n7_ := Aside0.mk (Kd.R_below (by (with_reducible repeat (first | apply Kd.R_alloc | apply Kd.R_drewN | apply Kd.R_drew)); exact HO524.out) hb); have n8_ := Aside0.mk (Kd.R_lower (Kd.R_new' (Kd.R_new' ho0 (Kd.R_lt (by (with_reducible repeat (first | apply Kd.R_alloc | apply Kd.R_drewN | apply Kd.R_drew)); exact HO509.out))) (Kd.R_lt (by (with_reducible repeat (first | apply Kd.R_alloc | apply Kd.R_drewN | apply Kd.R_drew)); exact HO512.out))) (below_size (by repeat (first | (with_reducible first | exact HB.out | apply below_alloc | apply pw_below_drewN | apply below_drew1 | refine below_set ?_ GE505.out | refine below_set ?_ GE506.out | refine below_set ?_ GE518.out) | exact HB.out)))); have n9_ := Aside0.mk (blk_below (g := gb505) (o := .cells #[.slice Ao35 t499.length co35] 25 (0, 0)) (by (with_reducible repeat (first | refine blk_drewN ?_ _ | refine blk_drew ?_ | refine blk_alloc ?_ _)); exact BK505.out) hb); have n10_ := Aside0.mk (blk_below (g := gb506) (o := .cells #[.slice Ao38 t502.length co38] 25 (0, 0)) (by (with_reducible repeat (first | refine blk_drewN ?_ _ | refine blk_drew ?_ | refine blk_alloc ?_ _)); exact BK506.out) hb); have n11_ := Aside0.mk (blk_below (g := gb518) (o := .cells #[.slice Ao48 t514.length co48] 25 (0, 0)) (by (with_reducible repeat (first | refine blk_drewN ?_ _ | refine blk_drew ?_ | refine blk_alloc ?_ _)); exact BK518.out) hb); have n12_ := Aside0.mk (below_step (by repeat (first | (with_reducible first | exact HB.out | apply below_alloc | apply pw_below_drewN | apply below_drew1 | refine below_set ?_ GE505.out | refine below_set ?_ GE506.out | refine below_set ?_ GE518.out) | exact HB.out)) hb); clear HO495; clear HO498; clear HO501; clear HO504; clear HO509; clear HO512; clear HO516; clear HO524; clear BK505; clear BK506; clear BK518; clear HB; have HO495 := n0_; have HO498 := n1_; have HO501 := n2_; have HO504 := n3_; have HO509 := n4_; have HO512 := n5_; have HO516 := n6_; have HO524 := n7_; have HO527 := n8_; have BK505 := n9_; have BK506 := n10_; have BK518 := n11_; have HB := n12_; clear n0_ n1_ n2_ n3_ n4_ n5_ n6_ n7_ n8_ n9_ n10_ n11_ n12_; (try clear hb); (try clear hb2); (try clear hk); (try clear hi); (try clear ho0)) | (go_at_call 39; (with_reducible refine (numeraryref02_Add.calls k _ _ t507 _ _ t510 t528 _ ?side1 ?side2 ?side3 ?side4 A21.out).mono ?_); (case side1 => repeat (first | exact (Kd.R_reads' HO509.out).2.2 | (with_reducible refine Kd.C_alloc ?_ _) | (with_reducible refine Kd.C_drewN ?_ _) | (with_reducible refine Kd.C_drew ?_))); (case side2 => exact (Kd.R_reads' HO509.out).2.1); (case side3 => repeat (first | exact (Kd.R_reads' HO512.out).2.2 | (with_reducible refine Kd.C_alloc ?_ _) | (with_reducible refine Kd.C_drewN ?_ _) | (with_reducible refine Kd.C_drew ?_))); (case side4 => exact (Kd.R_reads' HO512.out).2.1); rintro e w64 ⟨v529, rfl, ho0, hb⟩; have n0_ := Aside0.mk (Kd.V_elder' (by (with_reducible repeat (first | apply Kd.V_alloc | apply Kd.V_drewN | apply Kd.V_drew)); exact HO495.out) (Kd.R_base ho0) hb); have n1_ := Aside0.mk (Kd.V_elder' (by (with_reducible repeat (first | apply Kd.V_alloc | apply Kd.V_drewN | apply Kd.V_drew)); exact HO498.out) (Kd.R_base ho0) hb); have n2_ := Aside0.mk (Kd.R_below (by (with_reducible repeat (first | apply Kd.R_alloc | apply Kd.R_drewN | apply Kd.R_drew)); exact HO501.out) hb); have n3_ := Aside0.mk (Kd.R_below (by (with_reducible repeat (first | apply Kd.R_alloc | apply Kd.R_drewN | apply Kd.R_drew)); exact HO504.out) hb); have n4_ := Aside0.mk (Kd.R_elder' (by (with_reducible repeat (first | apply Kd.R_alloc | apply Kd.R_drewN | apply Kd.R_drew)); exact HO509.out) (Kd.R_base ho0) hb); have n5_ := Aside0.mk (Kd.R_elder' (by (with_reducible repeat (first | apply Kd.R_alloc | apply Kd.R_drewN | apply Kd.R_drew)); exact HO512.out) (Kd.R_base ho0) hb); have n6_ := Aside0.mk (Kd.R_below (by (with_reducible repeat (first | apply Kd.R_alloc | apply Kd.R_drewN | apply Kd.R_drew)); exact HO516.out) hb); have n7_ := Aside0.mk (Kd.R_below (by (with_reducible repeat (first | apply Kd.R_alloc | apply Kd.R_drewN | apply Kd.R_drew)); exact HO524.out) hb); have n8_ := Aside0.mk (Kd.R_elder' (by (with_reducible repeat (first | apply Kd.R_alloc | apply Kd.R_drewN | apply Kd.R_drew)); exact HO527.out) (Kd.R_base ho0) hb); have n9_ := Aside0.mk (Kd.R_lower (Kd.R_new' (Kd.R_new' (Kd.R_new' ho0 (Kd.R_lt (by (with_reducible repeat (first | apply Kd.R_alloc | apply Kd.R_drewN | apply Kd.R_drew)); exact HO509.out))) (Kd.R_lt (by (with_reducible repeat (first | apply Kd.R_alloc | apply Kd.R_drewN | apply Kd.R_drew)); exact HO512.out))) (Kd.R_lt (by (with_reducible repeat (first | apply Kd.R_alloc | apply Kd.R_drewN | apply Kd.R_drew)); exact HO527.out))) (below_size (by repeat (first | (with_reducible first | exact HB.out | apply below_alloc | apply pw_below_drewN | apply below_drew1 | refine below_set ?_ GE505.out | refine below_set ?_ GE506.out | refine below_set ?_ GE518.out) | exact HB.out)))); have n10_ := Aside0.mk (blk_below (g := gb505) (o := .cells #[.slice Ao35 t499.length co35] 25 (0, 0)) (by (with_reducible repeat (first | refine blk_drewN ?_ _ | refine blk_drew ?_ | refine blk_alloc ?_ _)); exact BK505.out) hb); have n11_ := Aside0.mk (blk_below (g := gb506) (o := .cells #[.slice Ao38 t502.length co38] 25 (0, 0)) (by (with_reducible repeat (first | refine blk_drewN ?_ _ | refine blk_drew ?_ | refine blk_alloc ?_ _)); exact BK506.out) hb); have n12_ := Aside0.mk (blk_below (g := gb518) (o := .cells #[.slice Ao48 t514.length co48] 25 (0, 0)) (by (with_reducible repeat (first | refine blk_drewN ?_ _ | refine blk_drew ?_ | refine blk_alloc ?_ _)); exact BK518.out) hb); have n13_ := Aside0.mk (below_step (by repeat (first | (with_reducible first | exact HB.out | apply below_alloc | apply pw_below_drewN | apply below_drew1 | refine below_set ?_ GE505.out | refine below_set ?_ GE506.out | refine below_set ?_ GE518.out) | exact HB.out)) hb); clear HO495; clear HO498; clear HO501; clear HO504; clear HO509; clear HO512; clear HO516; clear HO524; clear HO527; clear BK505; clear BK506; clear BK518; clear HB; have HO495 := n0_; have HO498 := n1_; have HO501 := n2_; have HO504 := n3_; have HO509 := n4_; have HO512 := n5_; have HO516 := n6_; have HO524 := n7_; have HO527 := n8_; have HO530 := n9_; have BK505 := n10_; have BK506 := n11_; have BK518 := n12_; have HB := n13_; clear n0_ n1_ n2_ n3_ n4_ n5_ n6_ n7_ n8_ n9_ n10_ n11_ n12_ n13_; (try clear hb); (try clear hb2); (try clear hk); (try clear hi); (try clear ho0); obtain ⟨Ao65, co65, eo65⟩ := Kd.R_slice HO527.out; subst eo65; obtain ⟨Ao66, co66, eo66⟩ := Kd.R_slice HO530.out; subst eo66) | (go_at_call 34; (with_reducible refine (numerarylaw02_same.calls k _ _ t525 _ _ t528 true _ ?side1 ?side2 ?side3 ?side4 A22.out).mono ?_); (case side1 => repeat (first | exact (Kd.R_reads' HO527.out).2.2 | (with_reducible refine Kd.C_alloc ?_ _) | (with_reducible refine Kd.C_drewN ?_ _) | (with_reducible refine Kd.C_drew ?_))); (case side2 => exact (Kd.R_reads' HO527.out).2.1); (case side3 => repeat (first | exact (Kd.R_reads' HO530.out).2.2 | (with_reducible refine Kd.C_alloc ?_ _) | (with_reducible refine Kd.C_drewN ?_ _) | (with_reducible refine Kd.C_drew ?_))); (case side4 => exact (Kd.R_reads' HO530.out).2.1); rintro e w' ⟨rfl, ⟨nd, rfl⟩⟩; have hcz67_0 : w64.cell? ⟨gb518, 0, none⟩ = some (.slice Ao48 t514.length co48) := (blk_cell BK518.out 0).trans rfl; have hfz67_0 := blk_frozen BK518.out 0) | (go_at_call 35; (with_reducible refine (numerarylaw02_of.calls k _ _ t514 t532 _ ?side1 ?side2 A24.out).mono ?_); (case side1 => repeat (first | exact (Kd.R_reads' HO516.out).2.2 | (with_reducible refine Kd.C_alloc ?_ _) | (with_reducible refine Kd.C_drewN ?_ _) | (with_reducible refine Kd.C_drew ?_))); (case side2 => exact (Kd.R_reads' HO516.out).2.1); rintro e w68 ⟨v533, rfl, ho0, hb⟩; have n0_ := Aside0.mk (Kd.V_elder' (by (with_reducible repeat (first | apply Kd.V_alloc | apply Kd.V_drewN | apply Kd.V_drew)); exact HO495.out) (Kd.R_base ho0) hb); have n1_ := Aside0.mk (Kd.V_elder' (by (with_reducible repeat (first | apply Kd.V_alloc | apply Kd.V_drewN | apply Kd.V_drew)); exact HO498.out) (Kd.R_base ho0) hb); have n2_ := Aside0.mk (Kd.R_below (by (with_reducible repeat (first | apply Kd.R_alloc | apply Kd.R_drewN | apply Kd.R_drew)); exact HO501.out) hb); have n3_ := Aside0.mk (Kd.R_below (by (with_reducible repeat (first | apply Kd.R_alloc | apply Kd.R_drewN | apply Kd.R_drew)); exact HO504.out) hb); have n4_ := Aside0.mk (Kd.R_elder' (by (with_reducible repeat (first | apply Kd.R_alloc | apply Kd.R_drewN | apply Kd.R_drew)); exact HO509.out) (Kd.R_base ho0) hb); have n5_ := Aside0.mk (Kd.R_elder' (by (with_reducible repeat (first | apply Kd.R_alloc | apply Kd.R_drewN | apply Kd.R_drew)); exact HO512.out) (Kd.R_base ho0) hb); have n6_ := Aside0.mk (Kd.R_below (by (with_reducible repeat (first | apply Kd.R_alloc | apply Kd.R_drewN | apply Kd.R_drew)); exact HO516.out) hb); have n7_ := Aside0.mk (Kd.R_below (by (with_reducible repeat (first | apply Kd.R_alloc | apply Kd.R_drewN | apply Kd.R_drew)); exact HO524.out) hb); have n8_ := Aside0.mk (Kd.R_elder' (by (with_reducible repeat (first | apply Kd.R_alloc | apply Kd.R_drewN | apply Kd.R_drew)); exact HO527.out) (Kd.R_base ho0) hb); have n9_ := Aside0.mk (Kd.R_elder' (by (with_reducible repeat (first | apply Kd.R_alloc | apply Kd.R_drewN | apply Kd.R_drew)); exact HO530.out) (Kd.R_base ho0) hb); have n10_ := Aside0.mk (Kd.R_lower (Kd.R_new' (Kd.R_new' (Kd.R_new' (Kd.R_new' ho0 (Kd.R_lt (by (with_reducible repeat (first | apply Kd.R_alloc | apply Kd.R_drewN | apply Kd.R_drew)); exact HO509.out))) (Kd.R_lt (by (with_reducible repeat (first | apply Kd.R_alloc | apply Kd.R_drewN | apply Kd.R_drew)); exact HO512.out))) (Kd.R_lt (by (with_reducible repeat (first | apply Kd.R_alloc | apply Kd.R_drewN | apply Kd.R_drew)); exact HO527.out))) (Kd.R_lt (by (with_reducible repeat (first | apply Kd.R_alloc | apply Kd.R_drewN | apply Kd.R_drew)); exact HO530.out))) (below_size (by repeat (first | (with_reducible first | exact HB.out | apply below_alloc | apply pw_below_drewN | apply below_drew1 | refine below_set ?_ GE505.out | refine below_set ?_ GE506.out | refine below_set ?_ GE518.out) | exact HB.out)))); have n11_ := Aside0.mk (blk_below (g := gb505) (o := .cells #[.slice Ao35 t499.length co35] 25 (0, 0)) (by (with_reducible repeat (first | refine blk_drewN ?_ _ | refine blk_drew ?_ | refine blk_alloc ?_ _)); exact BK505.out) hb); have n12_ := Aside0.mk (blk_below (g := gb506) (o := .cells #[.slice Ao38 t502.length co38] 25 (0, 0)) (by (with_reducible repeat (first | refine blk_drewN ?_ _ | refine blk_drew ?_ | refine blk_alloc ?_ _)); exact BK506.out) hb); have n13_ := Aside0.mk (blk_below (g := gb518) (o := .cells #[.slice Ao48 t514.length co48] 25 (0, 0)) (by (with_reducible repeat (first | refine blk_drewN ?_ _ | refine blk_drew ?_ | refine blk_alloc ?_ _)); exact BK518.out) hb); have n14_ := Aside0.mk (below_step (by repeat (first | (with_reducible first | exact HB.out | apply below_alloc | apply pw_below_drewN | apply below_drew1 | refine below_set ?_ GE505.out | refine below_set ?_ GE506.out | refine below_set ?_ GE518.out) | exact HB.out)) hb); clear HO495; clear HO498; clear HO501; clear HO504; clear HO509; clear HO512; clear HO516; clear HO524; clear HO527; clear HO530; clear BK505; clear BK506; clear BK518; clear HB; have HO495 := n0_; have HO498 := n1_; have HO501 := n2_; have HO504 := n3_; have HO509 := n4_; have HO512 := n5_; have HO516 := n6_; have HO524 := n7_; have HO527 := n8_; have HO530 := n9_; have HO534 := n10_; have BK505 := n11_; have BK506 := n12_; have BK518 := n13_; have HB := n14_; clear n0_ n1_ n2_ n3_ n4_ n5_ n6_ n7_ n8_ n9_ n10_ n11_ n12_ n13_ n14_; (try clear hb); (try clear hb2); (try clear hk); (try clear hi); (try clear ho0)) | (go_at_call 40; (with_reducible refine (numeraryref02_Sub.calls k _ _ t507 _ _ t510 t535 _ ?side1 ?side2 ?side3 ?side4 A25.out).mono ?_); (case side1 => repeat (first | exact (Kd.R_reads' HO509.out).2.2 | (with_reducible refine Kd.C_alloc ?_ _) | (with_reducible refine Kd.C_drewN ?_ _) | (with_reducible refine Kd.C_drew ?_))); (case side2 => exact (Kd.R_reads' HO509.out).2.1); (case side3 => repeat (first | exact (Kd.R_reads' HO512.out).2.2 | (with_reducible refine Kd.C_alloc ?_ _) | (with_reducible refine Kd.C_drewN ?_ _) | (with_reducible refine Kd.C_drew ?_))); (case side4 => exact (Kd.R_reads' HO512.out).2.1); rintro e w69 ⟨v536, rfl, ho0, hb⟩; have n0_ := Aside0.mk (Kd.V_elder' (by (with_reducible repeat (first | apply Kd.V_alloc | apply Kd.V_drewN | apply Kd.V_drew)); exact HO495.out) (Kd.R_base ho0) hb); have n1_ := Aside0.mk (Kd.V_elder' (by (with_reducible repeat (first | apply Kd.V_alloc | apply Kd.V_drewN | apply Kd.V_drew)); exact HO498.out) (Kd.R_base ho0) hb); have n2_ := Aside0.mk (Kd.R_below (by (with_reducible repeat (first | apply Kd.R_alloc | apply Kd.R_drewN | apply Kd.R_drew)); exact HO501.out) hb); have n3_ := Aside0.mk (Kd.R_below (by (with_reducible repeat (first | apply Kd.R_alloc | apply Kd.R_drewN | apply Kd.R_drew)); exact HO504.out) hb); have n4_ := Aside0.mk (Kd.R_elder' (by (with_reducible repeat (first | apply Kd.R_alloc | apply Kd.R_drewN | apply Kd.R_drew)); exact HO509.out) (Kd.R_base ho0) hb); have n5_ := Aside0.mk (Kd.R_elder' (by (with_reducible repeat (first | apply Kd.R_alloc | apply Kd.R_drewN | apply Kd.R_drew)); exact HO512.out) (Kd.R_base ho0) hb); have n6_ := Aside0.mk (Kd.R_below (by (with_reducible repeat (first | apply Kd.R_alloc | apply Kd.R_drewN | apply Kd.R_drew)); exact HO516.out) hb); have n7_ := Aside0.mk (Kd.R_below (by (with_reducible repeat (first | apply Kd.R_alloc | apply Kd.R_drewN | apply Kd.R_drew)); exact HO524.out) hb); have n8_ := Aside0.mk (Kd.R_elder' (by (with_reducible repeat (first | apply Kd.R_alloc | apply Kd.R_drewN | apply Kd.R_drew)); exact HO527.out) (Kd.R_base ho0) hb); have n9_ := Aside0.mk (Kd.R_elder' (by (with_reducible repeat (first | apply Kd.R_alloc | apply Kd.R_drewN | apply Kd.R_drew)); exact HO530.out) (Kd.R_base ho0) hb); have n10_ := Aside0.mk (Kd.R_elder' (by (with_reducible repeat (first | apply Kd.R_alloc | apply Kd.R_drewN | apply Kd.R_drew)); exact HO534.out) (Kd.R_base ho0) hb); have n11_ := Aside0.mk (Kd.R_lower (Kd.R_new' (Kd.R_new' (Kd.R_new' (Kd.R_new' (Kd.R_new' ho0 (Kd.R_lt (by (with_reducible repeat (first | apply Kd.R_alloc | apply Kd.R_drewN | apply Kd.R_drew)); exact HO509.out))) (Kd.R_lt (by (with_reducible repeat (first | apply Kd.R_alloc | apply Kd.R_drewN | apply Kd.R_drew)); exact HO512.out))) (Kd.R_lt (by (with_reducible repeat (first | apply Kd.R_alloc | apply Kd.R_drewN | apply Kd.R_drew)); exact HO527.out))) (Kd.R_lt (by (with_reducible repeat (first | apply Kd.R_alloc | apply Kd.R_drewN | apply Kd.R_drew)); exact HO530.out))) (Kd.R_lt (by (with_reducible repeat (first | apply Kd.R_alloc | apply Kd.R_drewN | apply Kd.R_drew)); exact HO534.out))) (below_size (by repeat (first | (with_reducible first | exact HB.out | apply below_alloc | apply pw_below_drewN | apply below_drew1 | refine below_set ?_ GE505.out | refine below_set ?_ GE506.out | refine below_set ?_ GE518.out) | exact HB.out)))); have n12_ := Aside0.mk (blk_below (g := gb505) (o := .cells #[.slice Ao35 t499.length co35] 25 (0, 0)) (by (with_reducible repeat (first | refine blk_drewN ?_ _ | refine blk_drew ?_ | refine blk_alloc ?_ _)); exact BK505.out) hb); have n13_ := Aside0.mk (blk_below (g := gb506) (o := .cells #[.slice Ao38 t502.length co38] 25 (0, 0)) (by (with_reducible repeat (first | refine blk_drewN ?_ _ | refine blk_drew ?_ | refine blk_alloc ?_ _)); exact BK506.out) hb); have n14_ := Aside0.mk (blk_below (g := gb518) (o := .cells #[.slice Ao48 t514.length co48] 25 (0, 0)) (by (with_reducible repeat (first | refine blk_drewN ?_ _ | refine blk_drew ?_ | refine blk_alloc ?_ _)); exact BK518.out) hb); have n15_ := Aside0.mk (below_step (by repeat (first | (with_reducible first | exact HB.out | apply below_alloc | apply pw_below_drewN | apply below_drew1 | refine below_set ?_ GE505.out | refine below_set ?_ GE506.out | refine below_set ?_ GE518.out) | exact HB.out)) hb); clear HO495; clear HO498; clear HO501; clear HO504; clear HO509; clear HO512; clear HO516; clear HO524; clear HO527; clear HO530; clear HO534; clear BK505; clear BK506; clear BK518; clear HB; have HO495 := n0_; have HO498 := n1_; have HO501 := n2_; have HO504 := n3_; have HO509 := n4_; have HO512 := n5_; have HO516 := n6_; have HO524 := n7_; have HO527 := n8_; have HO530 := n9_; have HO534 := n10_; have HO537 := n11_; have BK505 := n12_; have BK506 := n13_; have BK518 := n14_; have HB := n15_; clear n0_ n1_ n2_ n3_ n4_ n5_ n6_ n7_ n8_ n9_ n10_ n11_ n12_ n13_ n14_ n15_; (try clear hb); (try clear hb2); (try clear hk); (try clear hi); (try clear ho0); obtain ⟨Ao70, co70, eo70⟩ := Kd.R_slice HO534.out; subst eo70; obtain ⟨Ao71, co71, eo71⟩ := Kd.R_slice HO537.out; subst eo71) | (go_at_call 34; (with_reducible refine (numerarylaw02_same.calls k _ _ t532 _ _ t535 t538 _ ?side1 ?side2 ?side3 ?side4 A26.out).mono ?_); (case side1 => repeat (first | exact (Kd.R_reads' HO534.out).2.2 | (with_reducible refine Kd.C_alloc ?_ _) | (with_reducible refine Kd.C_drewN ?_ _) | (with_reducible refine Kd.C_drew ?_))); (case side2 => exact (Kd.R_reads' HO534.out).2.1); (case side3 => repeat (first | exact (Kd.R_reads' HO537.out).2.2 | (with_reducible refine Kd.C_alloc ?_ _) | (with_reducible refine Kd.C_drewN ?_ _) | (with_reducible refine Kd.C_drew ?_))); (case side4 => exact (Kd.R_reads' HO537.out).2.1); rintro e w' ⟨rfl, ⟨nd, rfl⟩⟩))
              go_ret
              exact ⟨by first | rfl | (simp [errW_none, errW_some] <;> rfl) | (simp [*, errW_none, errW_some] <;> rfl), by repeat (first | (with_reducible first | exact HB.out | apply below_alloc | apply pw_below_drewN | apply below_drew1 | refine below_set ?_ GE505.out | refine below_set ?_ GE506.out | refine below_set ?_ GE518.out) | exact HB.out)⟩
            · replace c23 := Bool.eq_false_iff.mpr c23
              subst c23
              have H1 : (some false) = some r := by rw [if_neg (show ¬ (false = true) by decide)] at H; exact H
              clear H
              have H := H1
              clear H1
              exact absurd (H.trans (congrArg some HR_.out)) (by simp)
          · replace c18 := Bool.eq_false_iff.mpr c18
            subst c18
            have H1 : (some false) = some r := by rw [if_neg (show ¬ (false = true) by decide)] at H; exact H
            clear H
            have H := H1
            clear H1
            exact absurd (H.trans (congrArg some HR_.out)) (by simp)
        · replace c16 := Bool.eq_false_iff.mpr c16
          subst c16
          have H1 : ((nat_Nat_Limbs.f t514).bind fun t539 => (if (t539.length : Int) = 0 then ((numerarylaw02_wakes.f k).bind fun t542 => (if t542 = true then ((nat_Add.f k t499 t502).bind fun t543 => ((numerarylaw02_of.f k t543).bind fun t546 => ((numeraryref02_Add.f k t507 t510).bind fun t549 => ((numerarylaw02_same.f k t546 t549).bind fun t552 => (if t552 = true then (some true) else (some false)))))) else (some false))) else (some false))) = some r := by rw [if_neg (show ¬ (false = true) by decide)] at H; exact H
          clear H
          have H := H1
          clear H1
          replace H := Option.bind_eq_some_iff.mp H
          obtain ⟨t539, A720, H⟩ := H
          replace H : (if (t539.length : Int) = 0 then ((numerarylaw02_wakes.f k).bind fun t542 => (if t542 = true then ((nat_Add.f k t499 t502).bind fun t543 => ((numerarylaw02_of.f k t543).bind fun t546 => ((numeraryref02_Add.f k t507 t510).bind fun t549 => ((numerarylaw02_same.f k t546 t549).bind fun t552 => (if t552 = true then (some true) else (some false)))))) else (some false))) else (some false)) = some r := H
          have A72 := Aside0.mk A720
          clear A720
          by_cases c73 : (t539.length : Int) = 0
          · rw [if_pos c73] at H
            have c73b0 : ((t539.length : Int) == 0) = true := beq_iff_eq.mpr c73
            have c73b1 : ((t539.length : Int) != 0) = false := bne_eq_false_iff_eq.mpr c73
            clear c73
            replace H := Option.bind_eq_some_iff.mp H
            obtain ⟨t542, A740, H⟩ := H
            replace H : (if t542 = true then ((nat_Add.f k t499 t502).bind fun t543 => ((numerarylaw02_of.f k t543).bind fun t546 => ((numeraryref02_Add.f k t507 t510).bind fun t549 => ((numerarylaw02_same.f k t546 t549).bind fun t552 => (if t552 = true then (some true) else (some false)))))) else (some false)) = some r := H
            have A74 := Aside0.mk A740
            clear A740
            by_cases c75 : t542 = true
            · subst c75
              have H1 : ((nat_Add.f k t499 t502).bind fun t543 => ((numerarylaw02_of.f k t543).bind fun t546 => ((numeraryref02_Add.f k t507 t510).bind fun t549 => ((numerarylaw02_same.f k t546 t549).bind fun t552 => (if t552 = true then (some true) else (some false)))))) = some r := by rw [if_pos rfl] at H; exact H
              clear H
              have H := H1
              clear H1
              replace H := Option.bind_eq_some_iff.mp H
              obtain ⟨t543, A760, H⟩ := H
              replace H : ((numerarylaw02_of.f k t543).bind fun t546 => ((numeraryref02_Add.f k t507 t510).bind fun t549 => ((numerarylaw02_same.f k t546 t549).bind fun t552 => (if t552 = true then (some true) else (some false))))) = some r := H
              have A76 := Aside0.mk A760
              clear A760
              replace H := Option.bind_eq_some_iff.mp H
              obtain ⟨t546, A770, H⟩ := H
              replace H : ((numeraryref02_Add.f k t507 t510).bind fun t549 => ((numerarylaw02_same.f k t546 t549).bind fun t552 => (if t552 = true then (some true) else (some false)))) = some r := H
              have A77 := Aside0.mk A770
              clear A770
              replace H := Option.bind_eq_some_iff.mp H
              obtain ⟨t549, A780, H⟩ := H
              replace H : ((numerarylaw02_same.f k t546 t549).bind fun t552 => (if t552 = true then (some true) else (some false))) = some r := H
              have A78 := Aside0.mk A780
              clear A780
              replace H := Option.bind_eq_some_iff.mp H
              obtain ⟨t552, A790, H⟩ := H
              replace H : (if t552 = true then (some true) else (some false)) = some r := H
              have A79 := Aside0.mk A790
              clear A790
              by_cases c80 : t552 = true
              · subst c80
                have H1 : (some true) = some r := by rw [if_pos rfl] at H; exact H
                clear H
                have H := H1
                clear H1
                obtain rfl := Option.some.inj H
                go_enter Try.func6, Try.ntmps6
                go_wp2_with (first | ((with_reducible refine gate_callee (f := 30) rfl ?_); refine goesL_ (some 13) rfl rfl Try.func30 (by kernel_rfl) rfl #[.slice A0 l0.length c0] rfl (by (try simp only [List.map_toArray, List.map_cons, List.map_nil]); first | done | rfl | (simp only [List.length_drop, List.length_take]; rfl)) ?_; (with_reducible refine (numerarylaw02_few.calls (fun k_ => k_ < w.heap.size) _ _ l0 t493 _ ?side1 A3.out).mono ?_); (case side1 => exact Kd.V_mk HC0.out (Kd.F_below (Kd.C_F (Kd.heap_int .u32) HR0.out) (by repeat (first | (with_reducible first | exact HB.out | apply below_alloc | apply pw_below_drewN | apply below_drew1) | exact HB.out)))); rintro e w81 ⟨v494, rfl, ho0, hb⟩; refine ⟨_, rfl, ?_⟩; have n0_ := Aside0.mk (Kd.V_lower (Kd.V_mono (ok' := fun k_ => True) ho0 (fun k_ hk_ => trivial)) (below_size (by repeat (first | (with_reducible first | exact HB.out | apply below_alloc | apply pw_below_drewN | apply below_drew1) | exact HB.out)))); have n1_ := Aside0.mk (below_step (by repeat (first | (with_reducible first | exact HB.out | apply below_alloc | apply pw_below_drewN | apply below_drew1) | exact HB.out)) hb); clear HB; have HO495 := n0_; have HB := n1_; clear n0_ n1_; (try clear hb); (try clear hb2); (try clear hk); (try clear hi); (try clear ho0)) | ((with_reducible refine gate_callee (f := 30) rfl ?_); refine goesL_ (some 15) rfl rfl Try.func30 (by kernel_rfl) rfl #[.slice A1 l1.length c1] rfl (by (try simp only [List.map_toArray, List.map_cons, List.map_nil]); first | done | rfl | (simp only [List.length_drop, List.length_take]; rfl)) ?_; (with_reducible refine (numerarylaw02_few.calls (fun k_ => k_ < w.heap.size) _ _ l1 t496 _ ?side1 A4.out).mono ?_); (case side1 => exact Kd.V_mk HC1.out (Kd.F_below (Kd.C_F (Kd.heap_int .u32) HR1.out) (by repeat (first | (with_reducible first | exact HB.out | apply below_alloc | apply pw_below_drewN | apply below_drew1) | exact HB.out)))); rintro e w82 ⟨v497, rfl, ho0, hb⟩; refine ⟨_, rfl, ?_⟩; have n0_ := Aside0.mk (Kd.V_below (by (with_reducible repeat (first | apply Kd.V_alloc | apply Kd.V_drewN | apply Kd.V_drew)); exact HO495.out) hb); have n1_ := Aside0.mk (Kd.V_lower (Kd.V_mono (ok' := fun k_ => True) ho0 (fun k_ hk_ => trivial)) (below_size (by repeat (first | (with_reducible first | exact HB.out | apply below_alloc | apply pw_below_drewN | apply below_drew1) | exact HB.out)))); have n2_ := Aside0.mk (below_step (by repeat (first | (with_reducible first | exact HB.out | apply below_alloc | apply pw_below_drewN | apply below_drew1) | exact HB.out)) hb); clear HO495; clear HB; have HO495 := n0_; have HO498 := n1_; have HB := n2_; clear n0_ n1_ n2_; (try clear hb); (try clear hb2); (try clear hk); (try clear hi); (try clear ho0); obtain ⟨Ao83, co83, eo83⟩ := Kd.V_slice HO495.out; subst eo83) | ((with_reducible refine gate_callee (f := 16) rfl ?_); refine goesL_ (some 17) rfl rfl Try.func16 (by kernel_rfl) rfl #[.slice Ao83 t493.length co83] rfl (by (try simp only [List.map_toArray, List.map_cons, List.map_nil]); first | done | rfl | (simp only [List.length_drop, List.length_take]; rfl)) ?_; (with_reducible refine (nat_Made.calls k _ _ t493 t499 _ ?side1 ?side2 A5.out).mono ?_); (case side1 => repeat (first | exact (Kd.V_reads' HO495.out).2.2 | (with_reducible refine Kd.C_alloc ?_ _) | (with_reducible refine Kd.C_drewN ?_ _) | (with_reducible refine Kd.C_drew ?_))); (case side2 => exact (Kd.V_reads' HO495.out).2.1); rintro e w84 ⟨v500, rfl, ho0, hb⟩; refine ⟨_, rfl, ?_⟩; have n0_ := Aside0.mk (Kd.V_elder' (by (with_reducible repeat (first | apply Kd.V_alloc | apply Kd.V_drewN | apply Kd.V_drew)); exact HO495.out) (Kd.R_base ho0) hb); have n1_ := Aside0.mk (Kd.V_elder' (by (with_reducible repeat (first | apply Kd.V_alloc | apply Kd.V_drewN | apply Kd.V_drew)); exact HO498.out) (Kd.R_base ho0) hb); have n2_ := Aside0.mk (Kd.R_lower ho0 (below_size (by repeat (first | (with_reducible first | exact HB.out | apply below_alloc | apply pw_below_drewN | apply below_drew1) | exact HB.out)))); have n3_ := Aside0.mk (below_step (by repeat (first | (with_reducible first | exact HB.out | apply below_alloc | apply pw_below_drewN | apply below_drew1) | exact HB.out)) hb); clear HO495; clear HO498; clear HB; have HO495 := n0_; have HO498 := n1_; have HO501 := n2_; have HB := n3_; clear n0_ n1_ n2_ n3_; (try clear hb); (try clear hb2); (try clear hk); (try clear hi); (try clear ho0); obtain ⟨Ao85, co85, eo85⟩ := Kd.V_slice HO498.out; subst eo85) | ((with_reducible refine gate_callee (f := 16) rfl ?_); refine goesL_ (some 19) rfl rfl Try.func16 (by kernel_rfl) rfl #[.slice Ao85 t496.length co85] rfl (by (try simp only [List.map_toArray, List.map_cons, List.map_nil]); first | done | rfl | (simp only [List.length_drop, List.length_take]; rfl)) ?_; (with_reducible refine (nat_Made.calls k _ _ t496 t502 _ ?side1 ?side2 A6.out).mono ?_); (case side1 => repeat (first | exact (Kd.V_reads' HO498.out).2.2 | (with_reducible refine Kd.C_alloc ?_ _) | (with_reducible refine Kd.C_drewN ?_ _) | (with_reducible refine Kd.C_drew ?_))); (case side2 => exact (Kd.V_reads' HO498.out).2.1); rintro e w86 ⟨v503, rfl, ho0, hb⟩; refine ⟨_, rfl, ?_⟩; have n0_ := Aside0.mk (Kd.V_elder' (by (with_reducible repeat (first | apply Kd.V_alloc | apply Kd.V_drewN | apply Kd.V_drew)); exact HO495.out) (Kd.R_base ho0) hb); have n1_ := Aside0.mk (Kd.V_elder' (by (with_reducible repeat (first | apply Kd.V_alloc | apply Kd.V_drewN | apply Kd.V_drew)); exact HO498.out) (Kd.R_base ho0) hb); have n2_ := Aside0.mk (Kd.R_elder' (by (with_reducible repeat (first | apply Kd.R_alloc | apply Kd.R_drewN | apply Kd.R_drew)); exact HO501.out) (Kd.R_base ho0) hb); have n3_ := Aside0.mk (Kd.R_lower (Kd.R_new' ho0 (Kd.R_lt (by (with_reducible repeat (first | apply Kd.R_alloc | apply Kd.R_drewN | apply Kd.R_drew)); exact HO501.out))) (below_size (by repeat (first | (with_reducible first | exact HB.out | apply below_alloc | apply pw_below_drewN | apply below_drew1) | exact HB.out)))); have n4_ := Aside0.mk (below_step (by repeat (first | (with_reducible first | exact HB.out | apply below_alloc | apply pw_below_drewN | apply below_drew1) | exact HB.out)) hb); clear HO495; clear HO498; clear HO501; clear HB; have HO495 := n0_; have HO498 := n1_; have HO501 := n2_; have HO504 := n3_; have HB := n4_; clear n0_ n1_ n2_ n3_ n4_; (try clear hb); (try clear hb2); (try clear hk); (try clear hi); (try clear ho0)) | ((with_reducible refine gate_dst (N := 5) rfl ?_); (try (refine gate_guard (by rfl) ?_; dsimp only)); refine box_event ?hg (N := 5) ?hd (cs := #[.slice none 0 0]) (t := 25) ?hr ?_; (case hd => rfl); (case hg => rfl); (case hr => first | (go_simp; done) | (go_simp; rfl)); intro gb505 hg w87 hbox hb; have n0_ := Aside0.mk (Kd.V_below (Kd.V_elderB (by (with_reducible repeat (first | apply Kd.V_alloc | apply Kd.V_drewN | apply Kd.V_drew)); exact HO495.out) gb505 (Nat.le_of_eq hg.symm)) hb); have n1_ := Aside0.mk (Kd.V_below (Kd.V_elderB (by (with_reducible repeat (first | apply Kd.V_alloc | apply Kd.V_drewN | apply Kd.V_drew)); exact HO498.out) gb505 (Nat.le_of_eq hg.symm)) hb); have n2_ := Aside0.mk (Kd.R_below (by (with_reducible repeat (first | apply Kd.R_alloc | apply Kd.R_drewN | apply Kd.R_drew)); exact HO501.out) hb); have n3_ := Aside0.mk (Kd.R_below (by (with_reducible repeat (first | apply Kd.R_alloc | apply Kd.R_drewN | apply Kd.R_drew)); exact HO504.out) hb); have n4_ := Aside0.mk (below_step (by repeat (first | (with_reducible first | exact HB.out | apply below_alloc | apply pw_below_drewN | apply below_drew1) | exact HB.out)) hb); have n5_ := Aside0.mk (hbox); have n6_ := Aside0.mk ((by rw [hg]; exact (below_size (by repeat (first | (with_reducible first | exact HB.out | apply below_alloc | apply pw_below_drewN | apply below_drew1) | exact HB.out))) : w.heap.size ≤ gb505)); have n7_ := Aside0.mk ((by rw [hg]; exact (below_size (by repeat (first | (with_reducible first | exact HB.out | apply below_alloc | apply pw_below_drewN | apply below_drew1) | exact HB.out))) : w.heap.size ≤ gb505)); clear HO495; clear HO498; clear HO501; clear HO504; clear HB; have HO495 := n0_; have HO498 := n1_; have HO501 := n2_; have HO504 := n3_; have HB := n4_; have BK505 := n5_; have GW505 := n6_; have GE505 := n7_; clear n0_ n1_ n2_ n3_ n4_ n5_ n6_ n7_; clear hb hbox hg) | ((with_reducible refine gate_dst (N := 6) rfl ?_); (try (refine gate_guard (by rfl) ?_; dsimp only)); refine box_event ?hg (N := 6) ?hd (cs := #[.slice none 0 0]) (t := 25) ?hr ?_; (case hd => rfl); (case hg => rfl); (case hr => first | (go_simp; done) | (go_simp; rfl)); intro gb506 hg w88 hbox hb; have n0_ := Aside0.mk (Kd.V_below (Kd.V_elderB (by (with_reducible repeat (first | apply Kd.V_alloc | apply Kd.V_drewN | apply Kd.V_drew)); exact HO495.out) gb506 (Nat.le_of_eq hg.symm)) hb); have n1_ := Aside0.mk (Kd.V_below (Kd.V_elderB (by (with_reducible repeat (first | apply Kd.V_alloc | apply Kd.V_drewN | apply Kd.V_drew)); exact HO498.out) gb506 (Nat.le_of_eq hg.symm)) hb); have n2_ := Aside0.mk (Kd.R_below (by (with_reducible repeat (first | apply Kd.R_alloc | apply Kd.R_drewN | apply Kd.R_drew)); exact HO501.out) hb); have n3_ := Aside0.mk (Kd.R_below (by (with_reducible repeat (first | apply Kd.R_alloc | apply Kd.R_drewN | apply Kd.R_drew)); exact HO504.out) hb); have n4_ := Aside0.mk (blk_below (g := gb505) (o := .cells #[.slice none 0 0] 25 (0, 0)) (by (with_reducible repeat (first | refine blk_drewN ?_ _ | refine blk_drew ?_ | refine blk_alloc ?_ _)); exact BK505.out) hb); have n5_ := Aside0.mk (below_step (by repeat (first | (with_reducible first | exact HB.out | apply below_alloc | apply pw_below_drewN | apply below_drew1 | refine below_set ?_ GE505.out) | exact HB.out)) hb); have n6_ := Aside0.mk (hbox); have n7_ := Aside0.mk ((by rw [hg]; exact (below_size (by repeat (first | (with_reducible first | exact HB.out | apply below_alloc | apply pw_below_drewN | apply below_drew1 | refine below_set ?_ GE505.out) | exact HB.out))) : w.heap.size ≤ gb506)); have n8_ := Aside0.mk ((by rw [hg]; exact (below_size (by repeat (first | (with_reducible first | exact HB.out | apply below_alloc | apply pw_below_drewN | apply below_drew1 | refine below_set ?_ GE505.out) | exact HB.out))) : w.heap.size ≤ gb506)); have n9_ := Aside0.mk ((by rw [hg]; exact Nat.ne_of_lt (blk_lt (g := gb505) (o := .cells #[.slice none 0 0] 25 (0, 0)) (by (with_reducible repeat (first | refine blk_drewN ?_ _ | refine blk_drew ?_ | refine blk_alloc ?_ _)); exact BK505.out)) : gb505 ≠ gb506)); have n10_ := Aside0.mk ((by rw [hg]; exact Nat.ne_of_gt (blk_lt (g := gb505) (o := .cells #[.slice none 0 0] 25 (0, 0)) (by (with_reducible repeat (first | refine blk_drewN ?_ _ | refine blk_drew ?_ | refine blk_alloc ?_ _)); exact BK505.out)) : gb506 ≠ gb505)); clear HO495; clear HO498; clear HO501; clear HO504; clear BK505; clear HB; have HO495 := n0_; have HO498 := n1_; have HO501 := n2_; have HO504 := n3_; have BK505 := n4_; have HB := n5_; have BK506 := n6_; have GW506 := n7_; have GE506 := n8_; have NB505_506 := n9_; have NB506_505 := n10_; clear n0_ n1_ n2_ n3_ n4_ n5_ n6_ n7_ n8_ n9_ n10_; clear hb hbox hg; obtain ⟨Ao89, co89, eo89⟩ := Kd.R_slice HO501.out; subst eo89; have hnb90 := NB505_506.out; have hnc90 := NB506_505.out; have hcz91_0 : w88.cell? ⟨gb505, 0, none⟩ = some (.slice none 0 0) := (blk_cell BK505.out 0).trans rfl; have hfz91_0 := blk_frozen BK505.out 0; obtain ⟨Ao92, co92, eo92⟩ := Kd.R_slice HO504.out; subst eo92; have hcz93_0 : w88.cell? ⟨gb506, 0, none⟩ = some (.slice none 0 0) := (blk_cell BK506.out 0).trans rfl; have hfz93_0 := blk_frozen BK506.out 0) | ((with_reducible refine gate_callee (f := 18) rfl ?_); refine goesL_ (some 21) rfl rfl Try.func18 (by kernel_rfl) rfl #[.slice Ao83 t493.length co83] rfl (by (try simp only [List.map_toArray, List.map_cons, List.map_nil]); first | done | rfl | (simp only [List.length_drop, List.length_take]; rfl)) ?_; (with_reducible refine (numeraryref02_Made.calls k _ _ t493 t507 _ ?side1 ?side2 A7.out).mono ?_); (case side1 => exact (Kd.V_reads' (e := 23) (base := w.heap.size) (n := t493.length) (c := co83) (by (with_reducible repeat (first | apply Kd.V_alloc | apply Kd.V_drewN | apply Kd.V_drew)); exact (Kd.V_mono (Kd.V_mono (Kd.V_far (p := ⟨gb506, 0, none⟩) (Kd.V_far (p := ⟨gb505, 0, none⟩) (Kd.V_mono (Kd.V_mono HO495.out (fun k_ hk => (⟨hk, hk.1.2⟩ : _ ∧ k_ ≠ gb505))) (fun k_ hk => (⟨hk, hk.1.2⟩ : _ ∧ k_ ≠ gb506))) (fun _ hk => hk.1.2) (.slice Ao89 t499.length co89)) (fun _ hk => hk.2) (.slice Ao92 t502.length co92)) (fun _ h_ => h_.1)) (fun _ h_ => h_.1)))).2.2); (case side2 => exact (Kd.V_reads' HO495.out).2.1); rintro e w94 ⟨v508, rfl, ho0, hb⟩; refine ⟨_, rfl, ?_⟩; have n0_ := Aside0.mk (Kd.V_elder' (by (with_reducible repeat (first | apply Kd.V_alloc | apply Kd.V_drewN | apply Kd.V_drew)); exact (Kd.V_mono (Kd.V_mono (Kd.V_far (p := ⟨gb506, 0, none⟩) (Kd.V_far (p := ⟨gb505, 0, none⟩) (Kd.V_mono (Kd.V_mono HO495.out (fun k_ hk => (⟨hk, hk.1.2⟩ : _ ∧ k_ ≠ gb505))) (fun k_ hk => (⟨hk, hk.1.2⟩ : _ ∧ k_ ≠ gb506))) (fun _ hk => hk.1.2) (.slice Ao89 t499.length co89)) (fun _ hk => hk.2) (.slice Ao92 t502.length co92)) (fun _ h_ => h_.1)) (fun _ h_ => h_.1))) (Kd.R_base ho0) hb); have n1_ := Aside0.mk (Kd.V_elder' (by (with_reducible repeat (first | apply Kd.V_alloc | apply Kd.V_drewN | apply Kd.V_drew)); exact (Kd.V_mono (Kd.V_mono (Kd.V_far (p := ⟨gb506, 0, none⟩) (Kd.V_far (p := ⟨gb505, 0, none⟩) (Kd.V_mono (Kd.V_mono HO498.out (fun k_ hk => (⟨hk, hk.1.2⟩ : _ ∧ k_ ≠ gb505))) (fun k_ hk => (⟨hk, hk.1.2⟩ : _ ∧ k_ ≠ gb506))) (fun _ hk => hk.1.2) (.slice Ao89 t499.length co89)) (fun _ hk => hk.2) (.slice Ao92 t502.length co92)) (fun _ h_ => h_.1)) (fun _ h_ => h_.1))) (Kd.R_base ho0) hb); have n2_ := Aside0.mk (Kd.R_below (by (with_reducible repeat (first | apply Kd.R_alloc | apply Kd.R_drewN | apply Kd.R_drew)); exact (Kd.R_mono (Kd.R_mono (Kd.R_far (p := ⟨gb506, 0, none⟩) (Kd.R_far (p := ⟨gb505, 0, none⟩) (Kd.R_types (Kd.R_types HO501.out BK505.out (by decide)) BK506.out (by decide)) (fun _ hk => hk.1.2) (.slice Ao89 t499.length co89)) (fun _ hk => hk.2) (.slice Ao92 t502.length co92)) (fun _ h_ => h_.1)) (fun _ h_ => h_.1))) hb); have n3_ := Aside0.mk (Kd.R_below (by (with_reducible repeat (first | apply Kd.R_alloc | apply Kd.R_drewN | apply Kd.R_drew)); exact (Kd.R_mono (Kd.R_mono (Kd.R_far (p := ⟨gb506, 0, none⟩) (Kd.R_far (p := ⟨gb505, 0, none⟩) (Kd.R_types (Kd.R_types HO504.out BK505.out (by decide)) BK506.out (by decide)) (fun _ hk => hk.1.2) (.slice Ao89 t499.length co89)) (fun _ hk => hk.2) (.slice Ao92 t502.length co92)) (fun _ h_ => h_.1)) (fun _ h_ => h_.1))) hb); have n4_ := Aside0.mk (Kd.R_lower ho0 (below_size (by repeat (first | (with_reducible first | exact HB.out | apply below_alloc | apply pw_below_drewN | apply below_drew1 | refine below_set ?_ GE505.out | refine below_set ?_ GE506.out) | exact HB.out)))); have n5_ := Aside0.mk (blk_below (g := gb505) (o := .cells #[.slice Ao89 t499.length co89] 25 (0, 0)) (by (with_reducible repeat (first | refine blk_drewN ?_ _ | refine blk_drew ?_ | refine blk_alloc ?_ _)); refine blk_far ?_ NB505_506.out _; (with_reducible repeat (first | refine blk_drewN ?_ _ | refine blk_drew ?_ | refine blk_alloc ?_ _)); refine blk_put (cs := #[.slice none 0 0]) ?_ 0 _ rfl; (with_reducible repeat (first | refine blk_drewN ?_ _ | refine blk_drew ?_ | refine blk_alloc ?_ _)); exact BK505.out) hb); have n6_ := Aside0.mk (blk_below (g := gb506) (o := .cells #[.slice Ao92 t502.length co92] 25 (0, 0)) (by (with_reducible repeat (first | refine blk_drewN ?_ _ | refine blk_drew ?_ | refine blk_alloc ?_ _)); refine blk_put (cs := #[.slice none 0 0]) ?_ 0 _ rfl; (with_reducible repeat (first | refine blk_drewN ?_ _ | refine blk_drew ?_ | refine blk_alloc ?_ _)); refine blk_far ?_ NB506_505.out _; (with_reducible repeat (first | refine blk_drewN ?_ _ | refine blk_drew ?_ | refine blk_alloc ?_ _)); exact BK506.out) hb); have n7_ := Aside0.mk (below_step (by repeat (first | (with_reducible first | exact HB.out | apply below_alloc | apply pw_below_drewN | apply below_drew1 | refine below_set ?_ GE505.out | refine below_set ?_ GE506.out) | exact HB.out)) hb); clear HO495; clear HO498; clear HO501; clear HO504; clear BK505; clear BK506; clear HB; have HO495 := n0_; have HO498 := n1_; have HO501 := n2_; have HO504 := n3_; have HO509 := n4_; have BK505 := n5_; have BK506 := n6_; have HB := n7_; clear n0_ n1_ n2_ n3_ n4_ n5_ n6_ n7_; (try clear hb); (try clear hb2); (try clear hk); (try clear hi); (try clear ho0)) | ((with_reducible refine gate_callee (f := 18) rfl ?_); refine goesL_ (some 23) rfl rfl Try.func18 (by kernel_rfl) rfl #[.slice Ao85 t496.length co85] rfl (by (try simp only [List.map_toArray, List.map_cons, List.map_nil]); first | done | rfl | (simp only [List.length_drop, List.length_take]; rfl)) ?_; (with_reducible refine (numeraryref02_Made.calls k _ _ t496 t510 _ ?side1 ?side2 A8.out).mono ?_); (case side1 => repeat (first | exact (Kd.V_reads' HO498.out).2.2 | (with_reducible refine Kd.C_alloc ?_ _) | (with_reducible refine Kd.C_drewN ?_ _) | (with_reducible refine Kd.C_drew ?_))); (case side2 => exact (Kd.V_reads' HO498.out).2.1); rintro e w95 ⟨v511, rfl, ho0, hb⟩; refine ⟨_, rfl, ?_⟩; have n0_ := Aside0.mk (Kd.V_elder' (by (with_reducible repeat (first | apply Kd.V_alloc | apply Kd.V_drewN | apply Kd.V_drew)); exact HO495.out) (Kd.R_base ho0) hb); have n1_ := Aside0.mk (Kd.V_elder' (by (with_reducible repeat (first | apply Kd.V_alloc | apply Kd.V_drewN | apply Kd.V_drew)); exact HO498.out) (Kd.R_base ho0) hb); have n2_ := Aside0.mk (Kd.R_below (by (with_reducible repeat (first | apply Kd.R_alloc | apply Kd.R_drewN | apply Kd.R_drew)); exact HO501.out) hb); have n3_ := Aside0.mk (Kd.R_below (by (with_reducible repeat (first | apply Kd.R_alloc | apply Kd.R_drewN | apply Kd.R_drew)); exact HO504.out) hb); have n4_ := Aside0.mk (Kd.R_elder' (by (with_reducible repeat (first | apply Kd.R_alloc | apply Kd.R_drewN | apply Kd.R_drew)); exact HO509.out) (Kd.R_base ho0) hb); have n5_ := Aside0.mk (Kd.R_lower (Kd.R_new' ho0 (Kd.R_lt (by (with_reducible repeat (first | apply Kd.R_alloc | apply Kd.R_drewN | apply Kd.R_drew)); exact HO509.out))) (below_size (by repeat (first | (with_reducible first | exact HB.out | apply below_alloc | apply pw_below_drewN | apply below_drew1 | refine below_set ?_ GE505.out | refine below_set ?_ GE506.out) | exact HB.out)))); have n6_ := Aside0.mk (blk_below (g := gb505) (o := .cells #[.slice Ao89 t499.length co89] 25 (0, 0)) (by (with_reducible repeat (first | refine blk_drewN ?_ _ | refine blk_drew ?_ | refine blk_alloc ?_ _)); exact BK505.out) hb); have n7_ := Aside0.mk (blk_below (g := gb506) (o := .cells #[.slice Ao92 t502.length co92] 25 (0, 0)) (by (with_reducible repeat (first | refine blk_drewN ?_ _ | refine blk_drew ?_ | refine blk_alloc ?_ _)); exact BK506.out) hb); have n8_ := Aside0.mk (below_step (by repeat (first | (with_reducible first | exact HB.out | apply below_alloc | apply pw_below_drewN | apply below_drew1 | refine below_set ?_ GE505.out | refine below_set ?_ GE506.out) | exact HB.out)) hb); clear HO495; clear HO498; clear HO501; clear HO504; clear HO509; clear BK505; clear BK506; clear HB; have HO495 := n0_; have HO498 := n1_; have HO501 := n2_; have HO504 := n3_; have HO509 := n4_; have HO512 := n5_; have BK505 := n6_; have BK506 := n7_; have HB := n8_; clear n0_ n1_ n2_ n3_ n4_ n5_ n6_ n7_ n8_; (try clear hb); (try clear hb2); (try clear hk); (try clear hi); (try clear ho0); obtain ⟨Ao96, co96, eo96⟩ := Kd.R_slice HO509.out; subst eo96; obtain ⟨Ao97, co97, eo97⟩ := Kd.R_slice HO512.out; subst eo97) | ((with_reducible refine gate_callee (f := 22) rfl ?_); refine goesL_ (some 26) rfl rfl Try.func22 (by kernel_rfl) rfl #[.slice Ao96 t507.length co96, .slice Ao97 t510.length co97] rfl (by (try simp only [List.map_toArray, List.map_cons, List.map_nil]); first | done | rfl | (simp only [List.length_drop, List.length_take]; rfl)) ?_; (with_reducible refine (numeraryref02_Cmp.calls k _ _ t507 _ _ t510 t513 _ ?side1 ?side2 ?side3 ?side4 A9.out).mono ?_); (case side1 => repeat (first | exact (Kd.R_reads' HO509.out).2.2 | (with_reducible refine Kd.C_alloc ?_ _) | (with_reducible refine Kd.C_drewN ?_ _) | (with_reducible refine Kd.C_drew ?_))); (case side2 => exact (Kd.R_reads' HO509.out).2.1); (case side3 => repeat (first | exact (Kd.R_reads' HO512.out).2.2 | (with_reducible refine Kd.C_alloc ?_ _) | (with_reducible refine Kd.C_drewN ?_ _) | (with_reducible refine Kd.C_drew ?_))); (case side4 => exact (Kd.R_reads' HO512.out).2.1); rintro e w' ⟨rfl, ⟨nd, rfl⟩⟩; refine ⟨_, rfl, ?_⟩; (try (rw [drewN_self w95]; generalize hq_ : World.drewN w95 _ = w95; have n0_ : Aside0 (Kd.V (Kd.int .u32) 23 w95 w.heap.size (fun k_ => some k_ ≠ (.slice Ao89 t499.length co89 : Value).ownBlock ∧ some k_ ≠ (.slice Ao92 t502.length co92 : Value).ownBlock ∧ some k_ ≠ (.slice Ao96 t507.length co96 : Value).ownBlock ∧ some k_ ≠ (.slice Ao97 t510.length co97 : Value).ownBlock ∧ k_ ≠ gb505 ∧ k_ ≠ gb506) (.slice Ao83 t493.length co83) t493) := ⟨by rw [← hq_]; exact (by (with_reducible repeat (first | apply Kd.V_alloc | apply Kd.V_drewN | apply Kd.V_drew)); exact Kd.V_mono HO495.out (fun _ hk => ⟨hk.1.1.1.1.1.2, ⟨hk.1.1.1.1.2, ⟨hk.1.2, ⟨hk.2, ⟨hk.1.1.1.2, hk.1.1.2⟩⟩⟩⟩⟩))⟩; have n1_ : Aside0 (Kd.V (Kd.int .u32) 23 w95 w.heap.size (fun k_ => some k_ ≠ (.slice Ao89 t499.length co89 : Value).ownBlock ∧ some k_ ≠ (.slice Ao92 t502.length co92 : Value).ownBlock ∧ some k_ ≠ (.slice Ao96 t507.length co96 : Value).ownBlock ∧ some k_ ≠ (.slice Ao97 t510.length co97 : Value).ownBlock ∧ k_ ≠ gb505 ∧ k_ ≠ gb506) (.slice Ao85 t496.length co85) t496) := ⟨by rw [← hq_]; exact (by (with_reducible repeat (first | apply Kd.V_alloc | apply Kd.V_drewN | apply Kd.V_drew)); exact Kd.V_mono HO498.out (fun _ hk => ⟨hk.1.1.1.1.1.2, ⟨hk.1.1.1.1.2, ⟨hk.1.2, ⟨hk.2, ⟨hk.1.1.1.2, hk.1.1.2⟩⟩⟩⟩⟩))⟩; have n2_ : Aside0 (Kd.R (Kd.int .u32) 23 w95 w.heap.size (fun k_ => some k_ ≠ (.slice Ao92 t502.length co92 : Value).ownBlock) (.slice Ao89 t499.length co89) t499) := ⟨by rw [← hq_]; exact (by (with_reducible repeat (first | apply Kd.R_alloc | apply Kd.R_drewN | apply Kd.R_drew)); exact Kd.R_mono HO501.out (fun _ hk => hk.2))⟩; have n3_ : Aside0 (Kd.R (Kd.int .u32) 23 w95 w.heap.size (fun k_ => some k_ ≠ (.slice Ao89 t499.length co89 : Value).ownBlock) (.slice Ao92 t502.length co92) t502) := ⟨by rw [← hq_]; exact (by (with_reducible repeat (first | apply Kd.R_alloc | apply Kd.R_drewN | apply Kd.R_drew)); exact Kd.R_mono HO504.out (fun _ hk => hk.2))⟩; have n4_ : Aside0 (Kd.R (Kd.int .i64) 3 w95 w.heap.size (fun k_ => some k_ ≠ (.slice Ao97 t510.length co97 : Value).ownBlock) (.slice Ao96 t507.length co96) t507) := ⟨by rw [← hq_]; exact (by (with_reducible repeat (first | apply Kd.R_alloc | apply Kd.R_drewN | apply Kd.R_drew)); exact Kd.R_mono HO509.out (fun _ hk => hk.2))⟩; have n5_ : Aside0 (Kd.R (Kd.int .i64) 3 w95 w.heap.size (fun k_ => some k_ ≠ (.slice Ao96 t507.length co96 : Value).ownBlock) (.slice Ao97 t510.length co97) t510) := ⟨by rw [← hq_]; exact (by (with_reducible repeat (first | apply Kd.R_alloc | apply Kd.R_drewN | apply Kd.R_drew)); exact Kd.R_mono HO512.out (fun _ hk => hk.2))⟩; have n6_ : Aside0 (w95.heap[gb505]? = some (.cells #[.slice Ao89 t499.length co89] 25 (0, 0))) := ⟨by rw [← hq_]; exact (by (with_reducible repeat (first | refine blk_drewN ?_ _ | refine blk_drew ?_ | refine blk_alloc ?_ _)); exact BK505.out)⟩; have n7_ : Aside0 (w95.heap[gb506]? = some (.cells #[.slice Ao92 t502.length co92] 25 (0, 0))) := ⟨by rw [← hq_]; exact (by (with_reducible repeat (first | refine blk_drewN ?_ _ | refine blk_drew ?_ | refine blk_alloc ?_ _)); exact BK506.out)⟩; have n8_ : Aside0 (Below w.heap.size w w95) := ⟨by rw [← hq_]; exact (by repeat (first | (with_reducible first | exact HB.out | apply below_alloc | apply pw_below_drewN | apply below_drew1 | refine below_set ?_ GE505.out | refine below_set ?_ GE506.out) | exact HB.out))⟩; clear HO495 HO498 HO501 HO504 HO509 HO512 BK505 BK506 HB hq_; have HO495 := n0_; have HO498 := n1_; have HO501 := n2_; have HO504 := n3_; have HO509 := n4_; have HO512 := n5_; have BK505 := n6_; have BK506 := n7_; have HB := n8_; clear n0_ n1_ n2_ n3_ n4_ n5_ n6_ n7_ n8_)); have hcz98_0 : w95.cell? ⟨gb505, 0, none⟩ = some (.slice Ao89 t499.length co89) := (blk_cell BK505.out 0).trans rfl; have hfz98_0 := blk_frozen BK505.out 0; have hcz99_0 : w95.cell? ⟨gb506, 0, none⟩ = some (.slice Ao92 t502.length co92) := (blk_cell BK506.out 0).trans rfl; have hfz99_0 := blk_frozen BK506.out 0) | ((with_reducible refine gate_callee (f := 36) rfl ?_); refine goesL_ (some 30) rfl rfl Try.func36 (by kernel_rfl) rfl #[.agg #[.slice Ao89 t499.length co89], .agg #[.slice Ao92 t502.length co92]] rfl (by (try simp only [List.map_toArray, List.map_cons, List.map_nil]); first | done | rfl | (simp only [List.length_drop, List.length_take]; rfl)) ?_; (with_reducible refine (nat_Sub.calls k _ _ t499 _ _ t502 t514 false _ ?side1 ?side2 ?side3 ?side4 A10.out).mono ?_); (case side1 => repeat (first | exact (Kd.R_reads' HO501.out).2.2 | (with_reducible refine Kd.C_alloc ?_ _) | (with_reducible refine Kd.C_drewN ?_ _) | (with_reducible refine Kd.C_drew ?_))); (case side2 => exact (Kd.R_reads' HO501.out).2.1); (case side3 => repeat (first | exact (Kd.R_reads' HO504.out).2.2 | (with_reducible refine Kd.C_alloc ?_ _) | (with_reducible refine Kd.C_drewN ?_ _) | (with_reducible refine Kd.C_drew ?_))); (case side4 => exact (Kd.R_reads' HO504.out).2.1); rintro e w100 ⟨v515, rfl, ho0, hb⟩; refine ⟨_, rfl, ?_⟩; have n0_ := Aside0.mk (Kd.V_elder' (by (with_reducible repeat (first | apply Kd.V_alloc | apply Kd.V_drewN | apply Kd.V_drew)); exact HO495.out) (Kd.R_base ho0) hb); have n1_ := Aside0.mk (Kd.V_elder' (by (with_reducible repeat (first | apply Kd.V_alloc | apply Kd.V_drewN | apply Kd.V_drew)); exact HO498.out) (Kd.R_base ho0) hb); have n2_ := Aside0.mk (Kd.R_elder' (by (with_reducible repeat (first | apply Kd.R_alloc | apply Kd.R_drewN | apply Kd.R_drew)); exact HO501.out) (Kd.R_base ho0) hb); have n3_ := Aside0.mk (Kd.R_elder' (by (with_reducible repeat (first | apply Kd.R_alloc | apply Kd.R_drewN | apply Kd.R_drew)); exact HO504.out) (Kd.R_base ho0) hb); have n4_ := Aside0.mk (Kd.R_below (by (with_reducible repeat (first | apply Kd.R_alloc | apply Kd.R_drewN | apply Kd.R_drew)); exact HO509.out) hb); have n5_ := Aside0.mk (Kd.R_below (by (with_reducible repeat (first | apply Kd.R_alloc | apply Kd.R_drewN | apply Kd.R_drew)); exact HO512.out) hb); have n6_ := Aside0.mk (Kd.R_lower (Kd.R_new' (Kd.R_new' ho0 (Kd.R_lt (by (with_reducible repeat (first | apply Kd.R_alloc | apply Kd.R_drewN | apply Kd.R_drew)); exact HO501.out))) (Kd.R_lt (by (with_reducible repeat (first | apply Kd.R_alloc | apply Kd.R_drewN | apply Kd.R_drew)); exact HO504.out))) (below_size (by repeat (first | (with_reducible first | exact HB.out | apply below_alloc | apply pw_below_drewN | apply below_drew1 | refine below_set ?_ GE505.out | refine below_set ?_ GE506.out) | exact HB.out)))); have n7_ := Aside0.mk (blk_below (g := gb505) (o := .cells #[.slice Ao89 t499.length co89] 25 (0, 0)) (by (with_reducible repeat (first | refine blk_drewN ?_ _ | refine blk_drew ?_ | refine blk_alloc ?_ _)); exact BK505.out) hb); have n8_ := Aside0.mk (blk_below (g := gb506) (o := .cells #[.slice Ao92 t502.length co92] 25 (0, 0)) (by (with_reducible repeat (first | refine blk_drewN ?_ _ | refine blk_drew ?_ | refine blk_alloc ?_ _)); exact BK506.out) hb); have n9_ := Aside0.mk (below_step (by repeat (first | (with_reducible first | exact HB.out | apply below_alloc | apply pw_below_drewN | apply below_drew1 | refine below_set ?_ GE505.out | refine below_set ?_ GE506.out) | exact HB.out)) hb); clear HO495; clear HO498; clear HO501; clear HO504; clear HO509; clear HO512; clear BK505; clear BK506; clear HB; have HO495 := n0_; have HO498 := n1_; have HO501 := n2_; have HO504 := n3_; have HO509 := n4_; have HO512 := n5_; have HO516 := n6_; have BK505 := n7_; have BK506 := n8_; have HB := n9_; clear n0_ n1_ n2_ n3_ n4_ n5_ n6_ n7_ n8_ n9_; (try clear hb); (try clear hb2); (try clear hk); (try clear hi); (try clear ho0)) | ((with_reducible refine gate_dst (N := 10) rfl ?_); (try (refine gate_guard (by rfl) ?_; dsimp only)); refine box_event ?hg (N := 10) ?hd (cs := #[.slice none 0 0]) (t := 25) ?hr ?_; (case hd => rfl); (case hg => rfl); (case hr => first | (go_simp; done) | (go_simp; rfl)); intro gb518 hg w101 hbox hb; have n0_ := Aside0.mk (Kd.V_below (Kd.V_elderB (by (with_reducible repeat (first | apply Kd.V_alloc | apply Kd.V_drewN | apply Kd.V_drew)); exact HO495.out) gb518 (Nat.le_of_eq hg.symm)) hb); have n1_ := Aside0.mk (Kd.V_below (Kd.V_elderB (by (with_reducible repeat (first | apply Kd.V_alloc | apply Kd.V_drewN | apply Kd.V_drew)); exact HO498.out) gb518 (Nat.le_of_eq hg.symm)) hb); have n2_ := Aside0.mk (Kd.R_below (by (with_reducible repeat (first | apply Kd.R_alloc | apply Kd.R_drewN | apply Kd.R_drew)); exact HO501.out) hb); have n3_ := Aside0.mk (Kd.R_below (by (with_reducible repeat (first | apply Kd.R_alloc | apply Kd.R_drewN | apply Kd.R_drew)); exact HO504.out) hb); have n4_ := Aside0.mk (Kd.R_below (by (with_reducible repeat (first | apply Kd.R_alloc | apply Kd.R_drewN | apply Kd.R_drew)); exact HO509.out) hb); have n5_ := Aside0.mk (Kd.R_below (by (with_reducible repeat (first | apply Kd.R_alloc | apply Kd.R_drewN | apply Kd.R_drew)); exact HO512.out) hb); have n6_ := Aside0.mk (Kd.R_below (by (with_reducible repeat (first | apply Kd.R_alloc | apply Kd.R_drewN | apply Kd.R_drew)); exact HO516.out) hb); have n7_ := Aside0.mk (blk_below (g := gb505) (o := .cells #[.slice Ao89 t499.length co89] 25 (0, 0)) (by (with_reducible repeat (first | refine blk_drewN ?_ _ | refine blk_drew ?_ | refine blk_alloc ?_ _)); exact BK505.out) hb); have n8_ := Aside0.mk (blk_below (g := gb506) (o := .cells #[.slice Ao92 t502.length co92] 25 (0, 0)) (by (with_reducible repeat (first | refine blk_drewN ?_ _ | refine blk_drew ?_ | refine blk_alloc ?_ _)); exact BK506.out) hb); have n9_ := Aside0.mk (below_step (by repeat (first | (with_reducible first | exact HB.out | apply below_alloc | apply pw_below_drewN | apply below_drew1 | refine below_set ?_ GE505.out | refine below_set ?_ GE506.out) | exact HB.out)) hb); have n10_ := Aside0.mk (hbox); have n11_ := Aside0.mk ((by rw [hg]; exact (below_size (by repeat (first | (with_reducible first | exact HB.out | apply below_alloc | apply pw_below_drewN | apply below_drew1 | refine below_set ?_ GE505.out | refine below_set ?_ GE506.out) | exact HB.out))) : w.heap.size ≤ gb518)); have n12_ := Aside0.mk ((by rw [hg]; exact (below_size (by repeat (first | (with_reducible first | exact HB.out | apply below_alloc | apply pw_below_drewN | apply below_drew1 | refine below_set ?_ GE505.out | refine below_set ?_ GE506.out) | exact HB.out))) : w.heap.size ≤ gb518)); have n13_ := Aside0.mk ((by rw [hg]; exact Nat.ne_of_lt (blk_lt (g := gb505) (o := .cells #[.slice Ao89 t499.length co89] 25 (0, 0)) (by (with_reducible repeat (first | refine blk_drewN ?_ _ | refine blk_drew ?_ | refine blk_alloc ?_ _)); exact BK505.out)) : gb505 ≠ gb518)); have n14_ := Aside0.mk ((by rw [hg]; exact Nat.ne_of_gt (blk_lt (g := gb505) (o := .cells #[.slice Ao89 t499.length co89] 25 (0, 0)) (by (with_reducible repeat (first | refine blk_drewN ?_ _ | refine blk_drew ?_ | refine blk_alloc ?_ _)); exact BK505.out)) : gb518 ≠ gb505)); have n15_ := Aside0.mk ((by rw [hg]; exact Nat.ne_of_lt (blk_lt (g := gb506) (o := .cells #[.slice Ao92 t502.length co92] 25 (0, 0)) (by (with_reducible repeat (first | refine blk_drewN ?_ _ | refine blk_drew ?_ | refine blk_alloc ?_ _)); exact BK506.out)) : gb506 ≠ gb518)); have n16_ := Aside0.mk ((by rw [hg]; exact Nat.ne_of_gt (blk_lt (g := gb506) (o := .cells #[.slice Ao92 t502.length co92] 25 (0, 0)) (by (with_reducible repeat (first | refine blk_drewN ?_ _ | refine blk_drew ?_ | refine blk_alloc ?_ _)); exact BK506.out)) : gb518 ≠ gb506)); clear HO495; clear HO498; clear HO501; clear HO504; clear HO509; clear HO512; clear HO516; clear BK505; clear BK506; clear HB; have HO495 := n0_; have HO498 := n1_; have HO501 := n2_; have HO504 := n3_; have HO509 := n4_; have HO512 := n5_; have HO516 := n6_; have BK505 := n7_; have BK506 := n8_; have HB := n9_; have BK518 := n10_; have GW518 := n11_; have GE518 := n12_; have NB505_518 := n13_; have NB518_505 := n14_; have NB506_518 := n15_; have NB518_506 := n16_; clear n0_ n1_ n2_ n3_ n4_ n5_ n6_ n7_ n8_ n9_ n10_ n11_ n12_ n13_ n14_ n15_ n16_; clear hb hbox hg; obtain ⟨Ao102, co102, eo102⟩ := Kd.R_slice HO516.out; subst eo102; have hnb103 := NB518_505.out; have hnc103 := NB505_518.out; have hnb104 := NB518_506.out; have hnc104 := NB506_518.out; have hcz105_0 : w101.cell? ⟨gb518, 0, none⟩ = some (.slice none 0 0) := (blk_cell BK518.out 0).trans rfl; have hfz105_0 := blk_frozen BK518.out 0; have hcz106_0 : w101.cell? ⟨gb505, 0, none⟩ = some (.slice Ao89 t499.length co89) := (blk_cell BK505.out 0).trans rfl; have hfz106_0 := blk_frozen BK505.out 0; have hcz107_0 : w101.cell? ⟨gb506, 0, none⟩ = some (.slice Ao92 t502.length co92) := (blk_cell BK506.out 0).trans rfl; have hfz107_0 := blk_frozen BK506.out 0) | ((with_reducible refine gate_callee (f := 37) rfl ?_); refine goesL_ (some 35) rfl rfl Try.func37 (by kernel_rfl) rfl #[.agg #[.slice Ao89 t499.length co89], .agg #[.slice Ao92 t502.length co92]] rfl (by (try simp only [List.map_toArray, List.map_cons, List.map_nil]); first | done | rfl | (simp only [List.length_drop, List.length_take]; rfl)) ?_; (with_reducible refine (nat_Cmp.calls k _ _ t499 _ _ t502 t519 _ ?side1 ?side2 ?side3 ?side4 A11.out).mono ?_); (case side1 => exact (Kd.R_reads' (e := 23) (base := w.heap.size) (n := t499.length) (c := co89) (by (with_reducible repeat (first | apply Kd.R_alloc | apply Kd.R_drewN | apply Kd.R_drew)); exact (Kd.R_mono (Kd.R_far (p := ⟨gb518, 0, none⟩) (Kd.R_types HO501.out BK518.out (by decide)) (fun _ hk => hk.2) (.slice Ao102 t514.length co102)) (fun _ h_ => h_.1)))).2.2); (case side2 => exact (Kd.R_reads' HO501.out).2.1); (case side3 => exact (Kd.R_reads' (e := 23) (base := w.heap.size) (n := t502.length) (c := co92) (by (with_reducible repeat (first | apply Kd.R_alloc | apply Kd.R_drewN | apply Kd.R_drew)); exact (Kd.R_mono (Kd.R_far (p := ⟨gb518, 0, none⟩) (Kd.R_types HO504.out BK518.out (by decide)) (fun _ hk => hk.2) (.slice Ao102 t514.length co102)) (fun _ h_ => h_.1)))).2.2); (case side4 => exact (Kd.R_reads' HO504.out).2.1); rintro e w108 ⟨rfl, hb⟩; refine ⟨_, rfl, ?_⟩; have n0_ := Aside0.mk (Kd.V_below (by (with_reducible repeat (first | apply Kd.V_alloc | apply Kd.V_drewN | apply Kd.V_drew)); exact (Kd.V_mono (Kd.V_far (p := ⟨gb518, 0, none⟩) (Kd.V_mono HO495.out (fun k_ hk => (⟨hk, hk.2⟩ : _ ∧ k_ ≠ gb518))) (fun _ hk => hk.2) (.slice Ao102 t514.length co102)) (fun _ h_ => h_.1))) hb); have n1_ := Aside0.mk (Kd.V_below (by (with_reducible repeat (first | apply Kd.V_alloc | apply Kd.V_drewN | apply Kd.V_drew)); exact (Kd.V_mono (Kd.V_far (p := ⟨gb518, 0, none⟩) (Kd.V_mono HO498.out (fun k_ hk => (⟨hk, hk.2⟩ : _ ∧ k_ ≠ gb518))) (fun _ hk => hk.2) (.slice Ao102 t514.length co102)) (fun _ h_ => h_.1))) hb); have n2_ := Aside0.mk (Kd.R_below (by (with_reducible repeat (first | apply Kd.R_alloc | apply Kd.R_drewN | apply Kd.R_drew)); exact (Kd.R_mono (Kd.R_far (p := ⟨gb518, 0, none⟩) (Kd.R_types HO501.out BK518.out (by decide)) (fun _ hk => hk.2) (.slice Ao102 t514.length co102)) (fun _ h_ => h_.1))) hb); have n3_ := Aside0.mk (Kd.R_below (by (with_reducible repeat (first | apply Kd.R_alloc | apply Kd.R_drewN | apply Kd.R_drew)); exact (Kd.R_mono (Kd.R_far (p := ⟨gb518, 0, none⟩) (Kd.R_types HO504.out BK518.out (by decide)) (fun _ hk => hk.2) (.slice Ao102 t514.length co102)) (fun _ h_ => h_.1))) hb); have n4_ := Aside0.mk (Kd.R_below (by (with_reducible repeat (first | apply Kd.R_alloc | apply Kd.R_drewN | apply Kd.R_drew)); exact (Kd.R_mono (Kd.R_far (p := ⟨gb518, 0, none⟩) (Kd.R_types HO509.out BK518.out (by decide)) (fun _ hk => hk.2) (.slice Ao102 t514.length co102)) (fun _ h_ => h_.1))) hb); have n5_ := Aside0.mk (Kd.R_below (by (with_reducible repeat (first | apply Kd.R_alloc | apply Kd.R_drewN | apply Kd.R_drew)); exact (Kd.R_mono (Kd.R_far (p := ⟨gb518, 0, none⟩) (Kd.R_types HO512.out BK518.out (by decide)) (fun _ hk => hk.2) (.slice Ao102 t514.length co102)) (fun _ h_ => h_.1))) hb); have n6_ := Aside0.mk (Kd.R_below (by (with_reducible repeat (first | apply Kd.R_alloc | apply Kd.R_drewN | apply Kd.R_drew)); exact (Kd.R_mono (Kd.R_far (p := ⟨gb518, 0, none⟩) (Kd.R_types HO516.out BK518.out (by decide)) (fun _ hk => hk.2) (.slice Ao102 t514.length co102)) (fun _ h_ => h_.1))) hb); have n7_ := Aside0.mk (blk_below (g := gb505) (o := .cells #[.slice Ao89 t499.length co89] 25 (0, 0)) (by (with_reducible repeat (first | refine blk_drewN ?_ _ | refine blk_drew ?_ | refine blk_alloc ?_ _)); refine blk_far ?_ NB505_518.out _; (with_reducible repeat (first | refine blk_drewN ?_ _ | refine blk_drew ?_ | refine blk_alloc ?_ _)); exact BK505.out) hb); have n8_ := Aside0.mk (blk_below (g := gb506) (o := .cells #[.slice Ao92 t502.length co92] 25 (0, 0)) (by (with_reducible repeat (first | refine blk_drewN ?_ _ | refine blk_drew ?_ | refine blk_alloc ?_ _)); refine blk_far ?_ NB506_518.out _; (with_reducible repeat (first | refine blk_drewN ?_ _ | refine blk_drew ?_ | refine blk_alloc ?_ _)); exact BK506.out) hb); have n9_ := Aside0.mk (blk_below (g := gb518) (o := .cells #[.slice Ao102 t514.length co102] 25 (0, 0)) (by (with_reducible repeat (first | refine blk_drewN ?_ _ | refine blk_drew ?_ | refine blk_alloc ?_ _)); refine blk_put (cs := #[.slice none 0 0]) ?_ 0 _ rfl; (with_reducible repeat (first | refine blk_drewN ?_ _ | refine blk_drew ?_ | refine blk_alloc ?_ _)); exact BK518.out) hb); have n10_ := Aside0.mk (below_step (by repeat (first | (with_reducible first | exact HB.out | apply below_alloc | apply pw_below_drewN | apply below_drew1 | refine below_set ?_ GE505.out | refine below_set ?_ GE506.out | refine below_set ?_ GE518.out) | exact HB.out)) hb); clear HO495; clear HO498; clear HO501; clear HO504; clear HO509; clear HO512; clear HO516; clear BK505; clear BK506; clear BK518; clear HB; have HO495 := n0_; have HO498 := n1_; have HO501 := n2_; have HO504 := n3_; have HO509 := n4_; have HO512 := n5_; have HO516 := n6_; have BK505 := n7_; have BK506 := n8_; have BK518 := n9_; have HB := n10_; clear n0_ n1_ n2_ n3_ n4_ n5_ n6_ n7_ n8_ n9_ n10_; (try clear hb); (try clear hb2); (try clear hk); (try clear hi); have hcz109_0 : w108.cell? ⟨gb506, 0, none⟩ = some (.slice Ao92 t502.length co92) := (blk_cell BK506.out 0).trans rfl; have hfz109_0 := blk_frozen BK506.out 0; have hcz110_0 : w108.cell? ⟨gb505, 0, none⟩ = some (.slice Ao89 t499.length co89) := (blk_cell BK505.out 0).trans rfl; have hfz110_0 := blk_frozen BK505.out 0) | (go_at_call 37; (with_reducible refine (nat_Cmp.calls k _ _ t502 _ _ t499 t520 _ ?side1 ?side2 ?side3 ?side4 A13.out).mono ?_); (case side1 => repeat (first | exact (Kd.R_reads' HO504.out).2.2 | (with_reducible refine Kd.C_alloc ?_ _) | (with_reducible refine Kd.C_drewN ?_ _) | (with_reducible refine Kd.C_drew ?_))); (case side2 => exact (Kd.R_reads' HO504.out).2.1); (case side3 => repeat (first | exact (Kd.R_reads' HO501.out).2.2 | (with_reducible refine Kd.C_alloc ?_ _) | (with_reducible refine Kd.C_drewN ?_ _) | (with_reducible refine Kd.C_drew ?_))); (case side4 => exact (Kd.R_reads' HO501.out).2.1); rintro e w111 ⟨rfl, hb⟩; have n0_ := Aside0.mk (Kd.V_below (by (with_reducible repeat (first | apply Kd.V_alloc | apply Kd.V_drewN | apply Kd.V_drew)); exact HO495.out) hb); have n1_ := Aside0.mk (Kd.V_below (by (with_reducible repeat (first | apply Kd.V_alloc | apply Kd.V_drewN | apply Kd.V_drew)); exact HO498.out) hb); have n2_ := Aside0.mk (Kd.R_below (by (with_reducible repeat (first | apply Kd.R_alloc | apply Kd.R_drewN | apply Kd.R_drew)); exact HO501.out) hb); have n3_ := Aside0.mk (Kd.R_below (by (with_reducible repeat (first | apply Kd.R_alloc | apply Kd.R_drewN | apply Kd.R_drew)); exact HO504.out) hb); have n4_ := Aside0.mk (Kd.R_below (by (with_reducible repeat (first | apply Kd.R_alloc | apply Kd.R_drewN | apply Kd.R_drew)); exact HO509.out) hb); have n5_ := Aside0.mk (Kd.R_below (by (with_reducible repeat (first | apply Kd.R_alloc | apply Kd.R_drewN | apply Kd.R_drew)); exact HO512.out) hb); have n6_ := Aside0.mk (Kd.R_below (by (with_reducible repeat (first | apply Kd.R_alloc | apply Kd.R_drewN | apply Kd.R_drew)); exact HO516.out) hb); have n7_ := Aside0.mk (blk_below (g := gb505) (o := .cells #[.slice Ao89 t499.length co89] 25 (0, 0)) (by (with_reducible repeat (first | refine blk_drewN ?_ _ | refine blk_drew ?_ | refine blk_alloc ?_ _)); exact BK505.out) hb); have n8_ := Aside0.mk (blk_below (g := gb506) (o := .cells #[.slice Ao92 t502.length co92] 25 (0, 0)) (by (with_reducible repeat (first | refine blk_drewN ?_ _ | refine blk_drew ?_ | refine blk_alloc ?_ _)); exact BK506.out) hb); have n9_ := Aside0.mk (blk_below (g := gb518) (o := .cells #[.slice Ao102 t514.length co102] 25 (0, 0)) (by (with_reducible repeat (first | refine blk_drewN ?_ _ | refine blk_drew ?_ | refine blk_alloc ?_ _)); exact BK518.out) hb); have n10_ := Aside0.mk (below_step (by repeat (first | (with_reducible first | exact HB.out | apply below_alloc | apply pw_below_drewN | apply below_drew1 | refine below_set ?_ GE505.out | refine below_set ?_ GE506.out | refine below_set ?_ GE518.out) | exact HB.out)) hb); clear HO495; clear HO498; clear HO501; clear HO504; clear HO509; clear HO512; clear HO516; clear BK505; clear BK506; clear BK518; clear HB; have HO495 := n0_; have HO498 := n1_; have HO501 := n2_; have HO504 := n3_; have HO509 := n4_; have HO512 := n5_; have HO516 := n6_; have BK505 := n7_; have BK506 := n8_; have BK518 := n9_; have HB := n10_; clear n0_ n1_ n2_ n3_ n4_ n5_ n6_ n7_ n8_ n9_ n10_; (try clear hb); (try clear hb2); (try clear hk); (try clear hi); have hcz112_0 : w111.cell? ⟨gb518, 0, none⟩ = some (.slice Ao102 t514.length co102) := (blk_cell BK518.out 0).trans rfl; have hfz112_0 := blk_frozen BK518.out 0) | (go_at_call 31; (with_reducible refine (nat_Nat_Limbs.calls _ _ t514 t539 _ ?side1 ?side2 A72.out).mono ?_); (case side1 => repeat (first | exact (Kd.R_reads' HO516.out).2.2 | (with_reducible refine Kd.C_alloc ?_ _) | (with_reducible refine Kd.C_drewN ?_ _) | (with_reducible refine Kd.C_drew ?_))); (case side2 => exact (Kd.R_reads' HO516.out).2.1); rintro e w113 ⟨v540, rfl, ho0, hb⟩; have n0_ := Aside0.mk (Kd.V_elder' (by (with_reducible repeat (first | apply Kd.V_alloc | apply Kd.V_drewN | apply Kd.V_drew)); exact HO495.out) (Kd.R_base ho0) hb); have n1_ := Aside0.mk (Kd.V_elder' (by (with_reducible repeat (first | apply Kd.V_alloc | apply Kd.V_drewN | apply Kd.V_drew)); exact HO498.out) (Kd.R_base ho0) hb); have n2_ := Aside0.mk (Kd.R_elder' (by (with_reducible repeat (first | apply Kd.R_alloc | apply Kd.R_drewN | apply Kd.R_drew)); exact HO501.out) (Kd.R_base ho0) hb); have n3_ := Aside0.mk (Kd.R_elder' (by (with_reducible repeat (first | apply Kd.R_alloc | apply Kd.R_drewN | apply Kd.R_drew)); exact HO504.out) (Kd.R_base ho0) hb); have n4_ := Aside0.mk (Kd.R_below (by (with_reducible repeat (first | apply Kd.R_alloc | apply Kd.R_drewN | apply Kd.R_drew)); exact HO509.out) hb); have n5_ := Aside0.mk (Kd.R_below (by (with_reducible repeat (first | apply Kd.R_alloc | apply Kd.R_drewN | apply Kd.R_drew)); exact HO512.out) hb); have n6_ := Aside0.mk (Kd.R_elder' (by (with_reducible repeat (first | apply Kd.R_alloc | apply Kd.R_drewN | apply Kd.R_drew)); exact HO516.out) (Kd.R_base ho0) hb); have n7_ := Aside0.mk (Kd.R_lower (Kd.R_new' (Kd.R_new' (Kd.R_new' ho0 (Kd.R_lt (by (with_reducible repeat (first | apply Kd.R_alloc | apply Kd.R_drewN | apply Kd.R_drew)); exact HO501.out))) (Kd.R_lt (by (with_reducible repeat (first | apply Kd.R_alloc | apply Kd.R_drewN | apply Kd.R_drew)); exact HO504.out))) (Kd.R_lt (by (with_reducible repeat (first | apply Kd.R_alloc | apply Kd.R_drewN | apply Kd.R_drew)); exact HO516.out))) (below_size (by repeat (first | (with_reducible first | exact HB.out | apply below_alloc | apply pw_below_drewN | apply below_drew1 | refine below_set ?_ GE505.out | refine below_set ?_ GE506.out | refine below_set ?_ GE518.out) | exact HB.out)))); have n8_ := Aside0.mk (blk_below (g := gb505) (o := .cells #[.slice Ao89 t499.length co89] 25 (0, 0)) (by (with_reducible repeat (first | refine blk_drewN ?_ _ | refine blk_drew ?_ | refine blk_alloc ?_ _)); exact BK505.out) hb); have n9_ := Aside0.mk (blk_below (g := gb506) (o := .cells #[.slice Ao92 t502.length co92] 25 (0, 0)) (by (with_reducible repeat (first | refine blk_drewN ?_ _ | refine blk_drew ?_ | refine blk_alloc ?_ _)); exact BK506.out) hb); have n10_ := Aside0.mk (blk_below (g := gb518) (o := .cells #[.slice Ao102 t514.length co102] 25 (0, 0)) (by (with_reducible repeat (first | refine blk_drewN ?_ _ | refine blk_drew ?_ | refine blk_alloc ?_ _)); exact BK518.out) hb); have n11_ := Aside0.mk (below_step (by repeat (first | (with_reducible first | exact HB.out | apply below_alloc | apply pw_below_drewN | apply below_drew1 | refine below_set ?_ GE505.out | refine below_set ?_ GE506.out | refine below_set ?_ GE518.out) | exact HB.out)) hb); clear HO495; clear HO498; clear HO501; clear HO504; clear HO509; clear HO512; clear HO516; clear BK505; clear BK506; clear BK518; clear HB; have HO495 := n0_; have HO498 := n1_; have HO501 := n2_; have HO504 := n3_; have HO509 := n4_; have HO512 := n5_; have HO516 := n6_; have HO541 := n7_; have BK505 := n8_; have BK506 := n9_; have BK518 := n10_; have HB := n11_; clear n0_ n1_ n2_ n3_ n4_ n5_ n6_ n7_ n8_ n9_ n10_ n11_; (try clear hb); (try clear hb2); (try clear hk); (try clear hi); (try clear ho0); obtain ⟨Ao114, co114, eo114⟩ := Kd.R_slice HO541.out; subst eo114) | ((with_reducible refine gate_callee (f := 32) rfl ?_); refine goesL_ (some 62) rfl rfl Try.func32 (by kernel_rfl) rfl #[] rfl (by (try simp only [List.map_toArray, List.map_cons, List.map_nil]); first | done | rfl | (simp only [List.length_drop, List.length_take]; rfl)) ?_; (with_reducible refine (numerarylaw02_wakes.calls k  true _ A74.out).mono ?_); rintro e w115 ⟨rfl, hb⟩; refine ⟨_, rfl, ?_⟩; have n0_ := Aside0.mk (Kd.V_below (by (with_reducible repeat (first | apply Kd.V_alloc | apply Kd.V_drewN | apply Kd.V_drew)); exact HO495.out) hb); have n1_ := Aside0.mk (Kd.V_below (by (with_reducible repeat (first | apply Kd.V_alloc | apply Kd.V_drewN | apply Kd.V_drew)); exact HO498.out) hb); have n2_ := Aside0.mk (Kd.R_below (by (with_reducible repeat (first | apply Kd.R_alloc | apply Kd.R_drewN | apply Kd.R_drew)); exact HO501.out) hb); have n3_ := Aside0.mk (Kd.R_below (by (with_reducible repeat (first | apply Kd.R_alloc | apply Kd.R_drewN | apply Kd.R_drew)); exact HO504.out) hb); have n4_ := Aside0.mk (Kd.R_below (by (with_reducible repeat (first | apply Kd.R_alloc | apply Kd.R_drewN | apply Kd.R_drew)); exact HO509.out) hb); have n5_ := Aside0.mk (Kd.R_below (by (with_reducible repeat (first | apply Kd.R_alloc | apply Kd.R_drewN | apply Kd.R_drew)); exact HO512.out) hb); have n6_ := Aside0.mk (Kd.R_below (by (with_reducible repeat (first | apply Kd.R_alloc | apply Kd.R_drewN | apply Kd.R_drew)); exact HO516.out) hb); have n7_ := Aside0.mk (Kd.R_below (by (with_reducible repeat (first | apply Kd.R_alloc | apply Kd.R_drewN | apply Kd.R_drew)); exact HO541.out) hb); have n8_ := Aside0.mk (blk_below (g := gb505) (o := .cells #[.slice Ao89 t499.length co89] 25 (0, 0)) (by (with_reducible repeat (first | refine blk_drewN ?_ _ | refine blk_drew ?_ | refine blk_alloc ?_ _)); exact BK505.out) hb); have n9_ := Aside0.mk (blk_below (g := gb506) (o := .cells #[.slice Ao92 t502.length co92] 25 (0, 0)) (by (with_reducible repeat (first | refine blk_drewN ?_ _ | refine blk_drew ?_ | refine blk_alloc ?_ _)); exact BK506.out) hb); have n10_ := Aside0.mk (blk_below (g := gb518) (o := .cells #[.slice Ao102 t514.length co102] 25 (0, 0)) (by (with_reducible repeat (first | refine blk_drewN ?_ _ | refine blk_drew ?_ | refine blk_alloc ?_ _)); exact BK518.out) hb); have n11_ := Aside0.mk (below_step (by repeat (first | (with_reducible first | exact HB.out | apply below_alloc | apply pw_below_drewN | apply below_drew1 | refine below_set ?_ GE505.out | refine below_set ?_ GE506.out | refine below_set ?_ GE518.out) | exact HB.out)) hb); clear HO495; clear HO498; clear HO501; clear HO504; clear HO509; clear HO512; clear HO516; clear HO541; clear BK505; clear BK506; clear BK518; clear HB; have HO495 := n0_; have HO498 := n1_; have HO501 := n2_; have HO504 := n3_; have HO509 := n4_; have HO512 := n5_; have HO516 := n6_; have HO541 := n7_; have BK505 := n8_; have BK506 := n9_; have BK518 := n10_; have HB := n11_; clear n0_ n1_ n2_ n3_ n4_ n5_ n6_ n7_ n8_ n9_ n10_ n11_; (try clear hb); (try clear hb2); (try clear hk); (try clear hi); have hcz116_0 : w115.cell? ⟨gb505, 0, none⟩ = some (.slice Ao89 t499.length co89) := (blk_cell BK505.out 0).trans rfl; have hfz116_0 := blk_frozen BK505.out 0; have hcz117_0 : w115.cell? ⟨gb506, 0, none⟩ = some (.slice Ao92 t502.length co92) := (blk_cell BK506.out 0).trans rfl; have hfz117_0 := blk_frozen BK506.out 0) | (go_at_call 38; (with_reducible refine (nat_Add.calls k _ _ t499 _ _ t502 t543 _ ?side1 ?side2 ?side3 ?side4 A76.out).mono ?_); (case side1 => repeat (first | exact (Kd.R_reads' HO501.out).2.2 | (with_reducible refine Kd.C_alloc ?_ _) | (with_reducible refine Kd.C_drewN ?_ _) | (with_reducible refine Kd.C_drew ?_))); (case side2 => exact (Kd.R_reads' HO501.out).2.1); (case side3 => repeat (first | exact (Kd.R_reads' HO504.out).2.2 | (with_reducible refine Kd.C_alloc ?_ _) | (with_reducible refine Kd.C_drewN ?_ _) | (with_reducible refine Kd.C_drew ?_))); (case side4 => exact (Kd.R_reads' HO504.out).2.1); rintro e w118 ⟨v544, rfl, ho0, hb⟩; have n0_ := Aside0.mk (Kd.V_elder' (by (with_reducible repeat (first | apply Kd.V_alloc | apply Kd.V_drewN | apply Kd.V_drew)); exact HO495.out) (Kd.R_base ho0) hb); have n1_ := Aside0.mk (Kd.V_elder' (by (with_reducible repeat (first | apply Kd.V_alloc | apply Kd.V_drewN | apply Kd.V_drew)); exact HO498.out) (Kd.R_base ho0) hb); have n2_ := Aside0.mk (Kd.R_elder' (by (with_reducible repeat (first | apply Kd.R_alloc | apply Kd.R_drewN | apply Kd.R_drew)); exact HO501.out) (Kd.R_base ho0) hb); have n3_ := Aside0.mk (Kd.R_elder' (by (with_reducible repeat (first | apply Kd.R_alloc | apply Kd.R_drewN | apply Kd.R_drew)); exact HO504.out) (Kd.R_base ho0) hb); have n4_ := Aside0.mk (Kd.R_below (by (with_reducible repeat (first | apply Kd.R_alloc | apply Kd.R_drewN | apply Kd.R_drew)); exact HO509.out) hb); have n5_ := Aside0.mk (Kd.R_below (by (with_reducible repeat (first | apply Kd.R_alloc | apply Kd.R_drewN | apply Kd.R_drew)); exact HO512.out) hb); have n6_ := Aside0.mk (Kd.R_elder' (by (with_reducible repeat (first | apply Kd.R_alloc | apply Kd.R_drewN | apply Kd.R_drew)); exact HO516.out) (Kd.R_base ho0) hb); have n7_ := Aside0.mk (Kd.R_elder' (by (with_reducible repeat (first | apply Kd.R_alloc | apply Kd.R_drewN | apply Kd.R_drew)); exact HO541.out) (Kd.R_base ho0) hb); have n8_ := Aside0.mk (Kd.R_lower (Kd.R_new' (Kd.R_new' (Kd.R_new' (Kd.R_new' ho0 (Kd.R_lt (by (with_reducible repeat (first | apply Kd.R_alloc | apply Kd.R_drewN | apply Kd.R_drew)); exact HO501.out))) (Kd.R_lt (by (with_reducible repeat (first | apply Kd.R_alloc | apply Kd.R_drewN | apply Kd.R_drew)); exact HO504.out))) (Kd.R_lt (by (with_reducible repeat (first | apply Kd.R_alloc | apply Kd.R_drewN | apply Kd.R_drew)); exact HO516.out))) (Kd.R_lt (by (with_reducible repeat (first | apply Kd.R_alloc | apply Kd.R_drewN | apply Kd.R_drew)); exact HO541.out))) (below_size (by repeat (first | (with_reducible first | exact HB.out | apply below_alloc | apply pw_below_drewN | apply below_drew1 | refine below_set ?_ GE505.out | refine below_set ?_ GE506.out | refine below_set ?_ GE518.out) | exact HB.out)))); have n9_ := Aside0.mk (blk_below (g := gb505) (o := .cells #[.slice Ao89 t499.length co89] 25 (0, 0)) (by (with_reducible repeat (first | refine blk_drewN ?_ _ | refine blk_drew ?_ | refine blk_alloc ?_ _)); exact BK505.out) hb); have n10_ := Aside0.mk (blk_below (g := gb506) (o := .cells #[.slice Ao92 t502.length co92] 25 (0, 0)) (by (with_reducible repeat (first | refine blk_drewN ?_ _ | refine blk_drew ?_ | refine blk_alloc ?_ _)); exact BK506.out) hb); have n11_ := Aside0.mk (blk_below (g := gb518) (o := .cells #[.slice Ao102 t514.length co102] 25 (0, 0)) (by (with_reducible repeat (first | refine blk_drewN ?_ _ | refine blk_drew ?_ | refine blk_alloc ?_ _)); exact BK518.out) hb); have n12_ := Aside0.mk (below_step (by repeat (first | (with_reducible first | exact HB.out | apply below_alloc | apply pw_below_drewN | apply below_drew1 | refine below_set ?_ GE505.out | refine below_set ?_ GE506.out | refine below_set ?_ GE518.out) | exact HB.out)) hb); clear HO495; clear HO498; clear HO501; clear HO504; clear HO509; clear HO512; clear HO516; clear HO541; clear BK505; clear BK506; clear BK518; clear HB; have HO495 := n0_; have HO498 := n1_; have HO501 := n2_; have HO504 := n3_; have HO509 := n4_; have HO512 := n5_; have HO516 := n6_; have HO541 := n7_; have HO545 := n8_; have BK505 := n9_; have BK506 := n10_; have BK518 := n11_; have HB := n12_; clear n0_ n1_ n2_ n3_ n4_ n5_ n6_ n7_ n8_ n9_ n10_ n11_ n12_; (try clear hb); (try clear hb2); (try clear hk); (try clear hi); (try clear ho0); obtain ⟨Ao119, co119, eo119⟩ := Kd.R_slice HO545.out; subst eo119) | (go_at_call 35; (with_reducible refine (numerarylaw02_of.calls k _ _ t543 t546 _ ?side1 ?side2 A77.out).mono ?_); (case side1 => repeat (first | exact (Kd.R_reads' HO545.out).2.2 | (with_reducible refine Kd.C_alloc ?_ _) | (with_reducible refine Kd.C_drewN ?_ _) | (with_reducible refine Kd.C_drew ?_))); (case side2 => exact (Kd.R_reads' HO545.out).2.1); rintro e w120 ⟨v547, rfl, ho0, hb⟩; have n0_ := Aside0.mk (Kd.V_elder' (by (with_reducible repeat (first | apply Kd.V_alloc | apply Kd.V_drewN | apply Kd.V_drew)); exact HO495.out) (Kd.R_base ho0) hb); have n1_ := Aside0.mk (Kd.V_elder' (by (with_reducible repeat (first | apply Kd.V_alloc | apply Kd.V_drewN | apply Kd.V_drew)); exact HO498.out) (Kd.R_base ho0) hb); have n2_ := Aside0.mk (Kd.R_below (by (with_reducible repeat (first | apply Kd.R_alloc | apply Kd.R_drewN | apply Kd.R_drew)); exact HO501.out) hb); have n3_ := Aside0.mk (Kd.R_below (by (with_reducible repeat (first | apply Kd.R_alloc | apply Kd.R_drewN | apply Kd.R_drew)); exact HO504.out) hb); have n4_ := Aside0.mk (Kd.R_elder' (by (with_reducible repeat (first | apply Kd.R_alloc | apply Kd.R_drewN | apply Kd.R_drew)); exact HO509.out) (Kd.R_base ho0) hb); have n5_ := Aside0.mk (Kd.R_elder' (by (with_reducible repeat (first | apply Kd.R_alloc | apply Kd.R_drewN | apply Kd.R_drew)); exact HO512.out) (Kd.R_base ho0) hb); have n6_ := Aside0.mk (Kd.R_below (by (with_reducible repeat (first | apply Kd.R_alloc | apply Kd.R_drewN | apply Kd.R_drew)); exact HO516.out) hb); have n7_ := Aside0.mk (Kd.R_below (by (with_reducible repeat (first | apply Kd.R_alloc | apply Kd.R_drewN | apply Kd.R_drew)); exact HO541.out) hb); have n8_ := Aside0.mk (Kd.R_below (by (with_reducible repeat (first | apply Kd.R_alloc | apply Kd.R_drewN | apply Kd.R_drew)); exact HO545.out) hb); have n9_ := Aside0.mk (Kd.R_lower (Kd.R_new' (Kd.R_new' ho0 (Kd.R_lt (by (with_reducible repeat (first | apply Kd.R_alloc | apply Kd.R_drewN | apply Kd.R_drew)); exact HO509.out))) (Kd.R_lt (by (with_reducible repeat (first | apply Kd.R_alloc | apply Kd.R_drewN | apply Kd.R_drew)); exact HO512.out))) (below_size (by repeat (first | (with_reducible first | exact HB.out | apply below_alloc | apply pw_below_drewN | apply below_drew1 | refine below_set ?_ GE505.out | refine below_set ?_ GE506.out | refine below_set ?_ GE518.out) | exact HB.out)))); have n10_ := Aside0.mk (blk_below (g := gb505) (o := .cells #[.slice Ao89 t499.length co89] 25 (0, 0)) (by (with_reducible repeat (first | refine blk_drewN ?_ _ | refine blk_drew ?_ | refine blk_alloc ?_ _)); exact BK505.out) hb); have n11_ := Aside0.mk (blk_below (g := gb506) (o := .cells #[.slice Ao92 t502.length co92] 25 (0, 0)) (by (with_reducible repeat (first | refine blk_drewN ?_ _ | refine blk_drew ?_ | refine blk_alloc ?_ _)); exact BK506.out) hb); have n12_ := Aside0.mk (blk_below (g := gb518) (o := .cells #[.slice Ao102 t514.length co102] 25 (0, 0)) (by (with_reducible repeat (first | refine blk_drewN ?_ _ | refine blk_drew ?_ | refine blk_alloc ?_ _)); exact BK518.out) hb); have n13_ := Aside0.mk (below_step (by repeat (first | (with_reducible first | exact HB.out | apply below_alloc | apply pw_below_drewN | apply below_drew1 | refine below_set ?_ GE505.out | refine below_set ?_ GE506.out | refine below_set ?_ GE518.out) | exact HB.out)) hb); clear HO495; clear HO498; clear HO501; clear HO504; clear HO509; clear HO512; clear HO516; clear HO541; clear HO545; clear BK505; clear BK506; clear BK518; clear HB; have HO495 := n0_; have HO498 := n1_; have HO501 := n2_; have HO504 := n3_; have HO509 := n4_; have HO512 := n5_; have HO516 := n6_; have HO541 := n7_; have HO545 := n8_; have HO548 := n9_; have BK505 := n10_; have BK506 := n11_; have BK518 := n12_; have HB := n13_; clear n0_ n1_ n2_ n3_ n4_ n5_ n6_ n7_ n8_ n9_ n10_ n11_ n12_ n13_; (try clear hb); (try clear hb2); (try clear hk); (try clear hi); (try clear ho0)) | (go_at_call 39; (with_reducible refine (numeraryref02_Add.calls k _ _ t507 _ _ t510 t549 _ ?side1 ?side2 ?side3 ?side4 A78.out).mono ?_); (case side1 => repeat (first | exact (Kd.R_reads' HO509.out).2.2 | (with_reducible refine Kd.C_alloc ?_ _) | (with_reducible refine Kd.C_drewN ?_ _) | (with_reducible refine Kd.C_drew ?_))); (case side2 => exact (Kd.R_reads' HO509.out).2.1); (case side3 => repeat (first | exact (Kd.R_reads' HO512.out).2.2 | (with_reducible refine Kd.C_alloc ?_ _) | (with_reducible refine Kd.C_drewN ?_ _) | (with_reducible refine Kd.C_drew ?_))); (case side4 => exact (Kd.R_reads' HO512.out).2.1); rintro e w121 ⟨v550, rfl, ho0, hb⟩; have n0_ := Aside0.mk (Kd.V_elder' (by (with_reducible repeat (first | apply Kd.V_alloc | apply Kd.V_drewN | apply Kd.V_drew)); exact HO495.out) (Kd.R_base ho0) hb); have n1_ := Aside0.mk (Kd.V_elder' (by (with_reducible repeat (first | apply Kd.V_alloc | apply Kd.V_drewN | apply Kd.V_drew)); exact HO498.out) (Kd.R_base ho0) hb); have n2_ := Aside0.mk (Kd.R_below (by (with_reducible repeat (first | apply Kd.R_alloc | apply Kd.R_drewN | apply Kd.R_drew)); exact HO501.out) hb); have n3_ := Aside0.mk (Kd.R_below (by (with_reducible repeat (first | apply Kd.R_alloc | apply Kd.R_drewN | apply Kd.R_drew)); exact HO504.out) hb); have n4_ := Aside0.mk (Kd.R_elder' (by (with_reducible repeat (first | apply Kd.R_alloc | apply Kd.R_drewN | apply Kd.R_drew)); exact HO509.out) (Kd.R_base ho0) hb); have n5_ := Aside0.mk (Kd.R_elder' (by (with_reducible repeat (first | apply Kd.R_alloc | apply Kd.R_drewN | apply Kd.R_drew)); exact HO512.out) (Kd.R_base ho0) hb); have n6_ := Aside0.mk (Kd.R_below (by (with_reducible repeat (first | apply Kd.R_alloc | apply Kd.R_drewN | apply Kd.R_drew)); exact HO516.out) hb); have n7_ := Aside0.mk (Kd.R_below (by (with_reducible repeat (first | apply Kd.R_alloc | apply Kd.R_drewN | apply Kd.R_drew)); exact HO541.out) hb); have n8_ := Aside0.mk (Kd.R_below (by (with_reducible repeat (first | apply Kd.R_alloc | apply Kd.R_drewN | apply Kd.R_drew)); exact HO545.out) hb); have n9_ := Aside0.mk (Kd.R_elder' (by (with_reducible repeat (first | apply Kd.R_alloc | apply Kd.R_drewN | apply Kd.R_drew)); exact HO548.out) (Kd.R_base ho0) hb); have n10_ := Aside0.mk (Kd.R_lower (Kd.R_new' (Kd.R_new' (Kd.R_new' ho0 (Kd.R_lt (by (with_reducible repeat (first | apply Kd.R_alloc | apply Kd.R_drewN | apply Kd.R_drew)); exact HO509.out))) (Kd.R_lt (by (with_reducible repeat (first | apply Kd.R_alloc | apply Kd.R_drewN | apply Kd.R_drew)); exact HO512.out))) (Kd.R_lt (by (with_reducible repeat (first | apply Kd.R_alloc | apply Kd.R_drewN | apply Kd.R_drew)); exact HO548.out))) (below_size (by repeat (first | (with_reducible first | exact HB.out | apply below_alloc | apply pw_below_drewN | apply below_drew1 | refine below_set ?_ GE505.out | refine below_set ?_ GE506.out | refine below_set ?_ GE518.out) | exact HB.out)))); have n11_ := Aside0.mk (blk_below (g := gb505) (o := .cells #[.slice Ao89 t499.length co89] 25 (0, 0)) (by (with_reducible repeat (first | refine blk_drewN ?_ _ | refine blk_drew ?_ | refine blk_alloc ?_ _)); exact BK505.out) hb); have n12_ := Aside0.mk (blk_below (g := gb506) (o := .cells #[.slice Ao92 t502.length co92] 25 (0, 0)) (by (with_reducible repeat (first | refine blk_drewN ?_ _ | refine blk_drew ?_ | refine blk_alloc ?_ _)); exact BK506.out) hb); have n13_ := Aside0.mk (blk_below (g := gb518) (o := .cells #[.slice Ao102 t514.length co102] 25 (0, 0)) (by (with_reducible repeat (first | refine blk_drewN ?_ _ | refine blk_drew ?_ | refine blk_alloc ?_ _)); exact BK518.out) hb); have n14_ := Aside0.mk (below_step (by repeat (first | (with_reducible first | exact HB.out | apply below_alloc | apply pw_below_drewN | apply below_drew1 | refine below_set ?_ GE505.out | refine below_set ?_ GE506.out | refine below_set ?_ GE518.out) | exact HB.out)) hb); clear HO495; clear HO498; clear HO501; clear HO504; clear HO509; clear HO512; clear HO516; clear HO541; clear HO545; clear HO548; clear BK505; clear BK506; clear BK518; clear HB; have HO495 := n0_; have HO498 := n1_; have HO501 := n2_; have HO504 := n3_; have HO509 := n4_; have HO512 := n5_; have HO516 := n6_; have HO541 := n7_; have HO545 := n8_; have HO548 := n9_; have HO551 := n10_; have BK505 := n11_; have BK506 := n12_; have BK518 := n13_; have HB := n14_; clear n0_ n1_ n2_ n3_ n4_ n5_ n6_ n7_ n8_ n9_ n10_ n11_ n12_ n13_ n14_; (try clear hb); (try clear hb2); (try clear hk); (try clear hi); (try clear ho0); obtain ⟨Ao122, co122, eo122⟩ := Kd.R_slice HO548.out; subst eo122; obtain ⟨Ao123, co123, eo123⟩ := Kd.R_slice HO551.out; subst eo123) | (go_at_call 34; (with_reducible refine (numerarylaw02_same.calls k _ _ t546 _ _ t549 true _ ?side1 ?side2 ?side3 ?side4 A79.out).mono ?_); (case side1 => repeat (first | exact (Kd.R_reads' HO548.out).2.2 | (with_reducible refine Kd.C_alloc ?_ _) | (with_reducible refine Kd.C_drewN ?_ _) | (with_reducible refine Kd.C_drew ?_))); (case side2 => exact (Kd.R_reads' HO548.out).2.1); (case side3 => repeat (first | exact (Kd.R_reads' HO551.out).2.2 | (with_reducible refine Kd.C_alloc ?_ _) | (with_reducible refine Kd.C_drewN ?_ _) | (with_reducible refine Kd.C_drew ?_))); (case side4 => exact (Kd.R_reads' HO551.out).2.1); rintro e w' ⟨rfl, ⟨nd, rfl⟩⟩))
                go_ret
                exact ⟨by first | rfl | (simp [errW_none, errW_some] <;> rfl) | (simp [*, errW_none, errW_some] <;> rfl), by repeat (first | (with_reducible first | exact HB.out | apply below_alloc | apply pw_below_drewN | apply below_drew1 | refine below_set ?_ GE505.out | refine below_set ?_ GE506.out | refine below_set ?_ GE518.out) | exact HB.out)⟩
              · replace c80 := Bool.eq_false_iff.mpr c80
                subst c80
                have H1 : (some false) = some r := by rw [if_neg (show ¬ (false = true) by decide)] at H; exact H
                clear H
                have H := H1
                clear H1
                exact absurd (H.trans (congrArg some HR_.out)) (by simp)
            · replace c75 := Bool.eq_false_iff.mpr c75
              subst c75
              have H1 : (some false) = some r := by rw [if_neg (show ¬ (false = true) by decide)] at H; exact H
              clear H
              have H := H1
              clear H1
              exact absurd (H.trans (congrArg some HR_.out)) (by simp)
          · rw [if_neg c73] at H
            exact absurd (H.trans (congrArg some HR_.out)) (by simp)
    · rw [if_neg c14] at H
      exact absurd (H.trans (congrArg some HR_.out)) (by simp)
  · rw [if_neg c12] at H
    exact absurd (H.trans (congrArg some HR_.out)) (by simp)

/-- THE ONE PURE STATEMENT of numerarylaw02_NatAdds: yours. -/
def numerarylaw02_NatAdds.Pure : Prop := ∀ (l0 : List Int) (l1 : List Int), l0.length ≤ maxLen → l0.length * 4 ≤ 140737488351232 → (∀ x ∈ l0, (Lit.int .u32 x).wf = true) → l1.length ≤ maxLen → l1.length * 4 ≤ 140737488351232 → (∀ x ∈ l1, (Lit.int .u32 x).wf = true) → ∃ k, numerarylaw02_NatAdds.f k l0 l1 = some true
theorem numerarylaw02_NatAdds.walk (P : numerarylaw02_NatAdds.Pure) (a0 : Option Addr) (len0 cap0 : Nat) (z0 : List Int) (a1 : Option Addr) (len1 cap1 : Nat) (z1 : List Int) (w : World) (w0 : (a0 = none ∧ len0 = 0 ∧ cap0 = 0 ∧ z0 = []) ∨ ∃ x, a0 = some x ∧ len0 ≤ cap0 ∧ cap0 ≤ maxLen ∧ z0.length = cap0 ∧ (∀ i, i < z0.length → w.cell? (x.add i) = some (.int .u32 (z0.getD i 0))) ∧ ∀ n ∈ z0, (Lit.int .u32 n).wf = true) (y0 : len0 * 4 ≤ 140737488351232) (w1 : (a1 = none ∧ len1 = 0 ∧ cap1 = 0 ∧ z1 = []) ∨ ∃ x, a1 = some x ∧ len1 ≤ cap1 ∧ cap1 ≤ maxLen ∧ z1.length = cap1 ∧ (∀ i, i < z1.length → w.cell? (x.add i) = some (.int .u32 (z1.getD i 0))) ∧ ∀ n ∈ z1, (Lit.int .u32 n).wf = true) (y1 : len1 * 4 ≤ 140737488351232) :
    Calls Try.prog 6 #[.slice a0 len0 cap0, .slice a1 len1 cap1] w fun e w' => e = .returned (.bool true) ∧ Below w.heap.size w w' := by
  obtain ⟨l0, rfl, hr0, hm0, hw0, hc0⟩ := ReadsInt.ofRowC w0
  obtain ⟨l1, rfl, hr1, hm1, hw1, hc1⟩ := ReadsInt.ofRowC w1
  obtain ⟨k, h⟩ := P l0 l1 hm0 y0 hw0 hm1 y1 hw1
  refine (numerarylaw02_NatAdds.calls k _ _ l0 _ _ l1 true w (Kd.C_of_reads (d := (0 : Int)) (h1 := fun _ => rfl) hr0) hc0 (Kd.C_of_reads (d := (0 : Int)) (h1 := fun _ => rfl) hr1) hc1 h rfl).mono ?_
  rintro e w' ⟨rfl, hd⟩
  exact ⟨rfl, hd⟩

end Go.Proofs.Ytcepdndhkidehaa.PA


namespace Go.Proofs.Ytcepdndhkidehaa.M
open Go.RowKit Go.Proofs.YtcepdndhkidehaaW.PrintWords Go.Proofs.YtcepdndhkidehaaW.PrintLast Go.Proofs.YtcepdndhkidehaaW.PrintMore
set_option linter.unusedVariables false
set_option linter.unusedSimpArgs false

/-! ### rounds -/
theorem ev_pos {α : Type} {c : Prop} [Decidable c] (h : c) {a b : Nat → Option α} {r : α} (ha : Ev a r) : Ev (fun k => if c then a k else b k) r := by
  simpa only [if_pos h] using ha
theorem ev_neg {α : Type} {c : Prop} [Decidable c] (h : ¬ c) {a b : Nat → Option α} {r : α} (hb : Ev b r) : Ev (fun k => if c then a k else b k) r := by
  simpa only [if_neg h] using hb
theorem ev_some {α β : Type} {o : Option α} {a : α} {f : Nat → α → Option β} {r : β} (h : o = some a) (k : Ev (fun n => f n a) r) : Ev (fun n => o.bind (f n)) r := by
  subst h; exact k
theorem ev_now {α : Type} {a r : α} (h : a = r) : Ev (fun _ => some a) r := by
  subst h; exact Ev.now _

/-! ### lists of naturals as lists of integers -/
def nl (l : List Nat) : List Int := l.map Int.ofNat
def gd (l : List Nat) (i : Nat) : Nat := l.getD i 0
theorem nl_length (l : List Nat) : (nl l).length = l.length := List.length_map _
theorem nl_nil : nl [] = [] := rfl
theorem nl_cons (x : Nat) (l : List Nat) : nl (x :: l) = (x : Int) :: nl l := rfl
theorem nl_append (a b : List Nat) : nl (a ++ b) = nl a ++ nl b := List.map_append
theorem nl_take (l : List Nat) (n : Nat) : (nl l).take n = nl (l.take n) := by unfold nl; rw [List.map_take]
theorem nl_drop (l : List Nat) (n : Nat) : (nl l).drop n = nl (l.drop n) := by unfold nl; rw [List.map_drop]
theorem nl_set (l : List Nat) (i v : Nat) : (nl l).set i (v : Int) = nl (l.set i v) := by unfold nl; rw [List.map_set]; rfl
theorem nl_replicate (n v : Nat) : List.replicate n (v : Int) = nl (List.replicate n v) := by unfold nl; rw [List.map_replicate]; rfl
theorem nl_inj {a b : List Nat} (h : nl a = nl b) : a = b := by
  induction a generalizing b with
  | nil => cases b with
    | nil => rfl
    | cons y b => simp [nl] at h
  | cons x a ih => cases b with
    | nil => simp [nl] at h
    | cons y b =>
      rw [nl_cons, nl_cons] at h
      injection h with h1 h2
      rw [ih h2, Int.ofNat.inj h1]
theorem rd_nl (l : List Nat) (i : Nat) : rd (nl l) (i : Int) = (gd l i : Nat) := by
  unfold rd gd nl
  rw [Int.toNat_natCast, List.getD_eq_getElem?_getD, List.getD_eq_getElem?_getD, List.getElem?_map]
  cases l[i]? <;> rfl
theorem toNl {l : List Int} (h : ∀ x ∈ l, 0 ≤ x) : l = nl (l.map Int.toNat) := by
  induction l with
  | nil => rfl
  | cons x l ih =>
    rw [List.map_cons, nl_cons, ← ih (fun y hy => h y (List.mem_cons_of_mem _ hy)), Int.toNat_of_nonneg (h x List.mem_cons_self)]
theorem gd_ge {l : List Nat} {i : Nat} (h : l.length ≤ i) : gd l i = 0 := by unfold gd; rw [List.getD_eq_getElem?_getD, List.getElem?_eq_none h]; rfl
theorem gd_cons_zero (x : Nat) (l : List Nat) : gd (x :: l) 0 = x := rfl
theorem gd_cons_succ (x : Nat) (l : List Nat) (i : Nat) : gd (x :: l) (i + 1) = gd l i := rfl
theorem gd_nil (i : Nat) : gd [] i = 0 := rfl
theorem gd_append_right (a b : List Nat) (i : Nat) : gd (a ++ b) (a.length + i) = gd b i := by
  unfold gd; rw [List.getD_eq_getElem?_getD, List.getD_eq_getElem?_getD, List.getElem?_append_right (by omega), Nat.add_sub_cancel_left]
theorem gd_append_left (a b : List Nat) (i : Nat) (h : i < a.length) : gd (a ++ b) i = gd a i := by
  unfold gd; rw [List.getD_eq_getElem?_getD, List.getD_eq_getElem?_getD, List.getElem?_append_left h]
theorem gd_take (l : List Nat) (n i : Nat) (h : i < n) : gd (l.take n) i = gd l i := by
  unfold gd; rw [List.getD_eq_getElem?_getD, List.getD_eq_getElem?_getD, List.getElem?_take, if_pos h]
theorem gd_drop (l : List Nat) (n i : Nat) : gd (l.drop n) i = gd l (n + i) := by
  unfold gd; rw [List.getD_eq_getElem?_getD, List.getD_eq_getElem?_getD, List.getElem?_drop]
theorem gd_set (l : List Nat) (i j v : Nat) (h : i < l.length) : gd (l.set i v) j = if i = j then v else gd l j := by
  unfold gd; rw [List.getD_eq_getElem?_getD, List.getD_eq_getElem?_getD, List.getElem?_set]
  by_cases e : i = j
  · subst e; simp [h]
  · simp [e]
theorem gd_replicate (n i : Nat) : gd (List.replicate n 0) i = 0 := by
  unfold gd; rw [List.getD_eq_getElem?_getD, List.getElem?_replicate]; split <;> rfl
theorem take_succ (l : List Nat) (i : Nat) (h : i < l.length) : l.take (i + 1) = l.take i ++ [gd l i] := by
  rw [List.take_succ_eq_append_getElem h]; unfold gd; rw [List.getD_eq_getElem?_getD, List.getElem?_eq_getElem h]; rfl
theorem drop_cons (l : List Nat) (i : Nat) (h : i < l.length) : l.drop i = gd l i :: l.drop (i + 1) := by
  rw [List.drop_eq_getElem_cons h]; unfold gd; rw [List.getD_eq_getElem?_getD, List.getElem?_eq_getElem h]; rfl
theorem take_set_succ (l : List Nat) (i v : Nat) (h : i < l.length) : (l.set i v).take (i + 1) = l.take i ++ [v] := by
  rw [take_succ _ _ (by rw [List.length_set]; exact h), gd_set _ _ _ _ h, if_pos rfl, List.take_set_of_le (Nat.le_refl _)]
theorem drop_set_succ (l : List Nat) (i v : Nat) : (l.set i v).drop (i + 1) = l.drop (i + 1) := by
  rw [List.drop_set_of_lt (Nat.lt_succ_self _)]

/-! ### the value of digits -/
def val (B : Nat) : List Nat → Nat
  | [] => 0
  | x :: l => x + B * val B l
def Dg (B : Nat) (l : List Nat) : Prop := ∀ x ∈ l, x < B
theorem Dg.nil (B : Nat) : Dg B [] := fun x h => by cases h
theorem Dg.cons {B x : Nat} {l : List Nat} (hx : x < B) (h : Dg B l) : Dg B (x :: l) := fun y hy => by
  rcases List.mem_cons.mp hy with rfl | hy
  · exact hx
  · exact h y hy
theorem Dg.head {B x : Nat} {l : List Nat} (h : Dg B (x :: l)) : x < B := h x List.mem_cons_self
theorem Dg.tail {B x : Nat} {l : List Nat} (h : Dg B (x :: l)) : Dg B l := fun y hy => h y (List.mem_cons_of_mem _ hy)
theorem Dg.append {B : Nat} {a b : List Nat} (h : Dg B a) (k : Dg B b) : Dg B (a ++ b) := fun x hx => by
  rcases List.mem_append.mp hx with hx | hx
  · exact h x hx
  · exact k x hx
theorem Dg.take {B : Nat} {l : List Nat} (h : Dg B l) (n : Nat) : Dg B (l.take n) := fun x hx => h x (List.mem_of_mem_take hx)
theorem Dg.drop {B : Nat} {l : List Nat} (h : Dg B l) (n : Nat) : Dg B (l.drop n) := fun x hx => h x (List.mem_of_mem_drop hx)
theorem Dg.set {B : Nat} {l : List Nat} (h : Dg B l) (i : Nat) {v : Nat} (hv : v < B) : Dg B (l.set i v) := fun x hx => by
  rcases List.mem_or_eq_of_mem_set hx with hx | rfl
  · exact h x hx
  · exact hv
theorem Dg.replicate {B : Nat} (hB : 0 < B) (n : Nat) : Dg B (List.replicate n 0) := fun x hx => by
  rw [List.eq_of_mem_replicate hx]; exact hB
theorem Dg.gd {B : Nat} {l : List Nat} (h : Dg B l) (hB : 0 < B) (i : Nat) : gd l i < B := by
  unfold M.gd; rw [List.getD_eq_getElem?_getD]
  rcases Nat.lt_or_ge i l.length with hi | hi
  · rw [List.getElem?_eq_getElem hi]; exact h _ (List.getElem_mem hi)
  · rw [List.getElem?_eq_none hi]; exact hB
theorem val_append (B : Nat) (a b : List Nat) : val B (a ++ b) = val B a + B ^ a.length * val B b := by
  induction a with
  | nil => simp [val]
  | cons x a ih => rw [List.cons_append, val, ih, val, List.length_cons, Nat.pow_succ]; grind
theorem val_lt {B : Nat} {l : List Nat} (hB : 0 < B) (h : Dg B l) : val B l < B ^ l.length := by
  induction l with
  | nil => simp [val]
  | cons x l ih =>
    have h1 := ih h.tail
    have h2 := h.head
    rw [val, List.length_cons, Nat.pow_succ]
    have := Nat.mul_le_mul_left B (Nat.succ_le_of_lt h1)
    rw [Nat.succ_eq_add_one, Nat.mul_add] at this
    grind
theorem val_replicate (B n : Nat) : val B (List.replicate n 0) = 0 := by
  induction n with
  | zero => rfl
  | succ n ih => rw [List.replicate_succ, val, ih]; rfl
theorem val_snoc (B : Nat) (l : List Nat) (v : Nat) : val B (l ++ [v]) = val B l + B ^ l.length * v := by rw [val_append]; simp [val]
theorem val_take_succ (B : Nat) (l : List Nat) (i : Nat) : val B (l.take (i + 1)) = val B (l.take i) + B ^ i * gd l i := by
  rcases Nat.lt_or_ge i l.length with hi | hi
  · rw [take_succ l i hi, val_snoc, List.length_take, Nat.min_eq_left (Nat.le_of_lt hi)]
  · rw [gd_ge hi, List.take_of_length_le (by omega), List.take_of_length_le hi, Nat.mul_zero, Nat.add_zero]
theorem val_set (B : Nat) (l : List Nat) (i v : Nat) (h : i < l.length) : val B (l.set i v) + B ^ i * gd l i = val B l + B ^ i * v := by
  induction l generalizing i with
  | nil => simp at h
  | cons x l ih =>
    cases i with
    | zero => rw [List.set_cons_zero, val, val, gd_cons_zero]; grind
    | succ i =>
      have := ih i (by simpa using h)
      rw [List.set_cons_succ, val, val, gd_cons_succ, Nat.pow_succ]; grind
theorem val_split (B : Nat) (l : List Nat) (i : Nat) (h : i ≤ l.length) : val B l = val B (l.take i) + B ^ i * val B (l.drop i) := by
  have := val_append B (l.take i) (l.drop i)
  rw [List.take_append_drop, List.length_take, Nat.min_eq_left h] at this
  exact this
theorem val_drop (B : Nat) (l : List Nat) (i : Nat) (h : i < l.length) : val B (l.drop i) = gd l i + B * val B (l.drop (i + 1)) := by
  rw [drop_cons l i h, val]

/-! ### a number's digits -/
def dgf (B : Nat) : Nat → Nat → List Nat
  | 0, _ => []
  | f + 1, n => if n = 0 then [] else n % B :: dgf B f (n / B)
def dg (B n : Nat) : List Nat := dgf B n n
theorem dgf_more (B : Nat) (hB : 2 ≤ B) : ∀ f n, n ≤ f → dgf B f n = dgf B n n := by
  intro f
  induction f using Nat.strongRecOn with
  | _ f ih =>
    intro n hn
    cases f with
    | zero => have : n = 0 := by omega
              subst this; rfl
    | succ f =>
      cases n with
      | zero => simp [dgf]
      | succ n =>
        have hlt : (n + 1) / B ≤ n := Nat.le_of_lt_succ (Nat.div_lt_self (Nat.succ_pos n) hB)
        rw [dgf, dgf, if_neg (by omega), if_neg (by omega), ih f (by omega) _ (Nat.le_trans hlt (by omega)), ih n (by omega) _ hlt]
theorem dg_zero (B : Nat) : dg B 0 = [] := rfl
theorem dg_pos {B n : Nat} (hB : 2 ≤ B) (h : 0 < n) : dg B n = n % B :: dg B (n / B) := by
  cases n with
  | zero => omega
  | succ n =>
    have hlt : (n + 1) / B ≤ n := Nat.le_of_lt_succ (Nat.div_lt_self (Nat.succ_pos n) hB)
    unfold dg
    rw [dgf, if_neg (by omega), dgf_more B hB _ _ hlt]
theorem val_dg {B : Nat} (hB : 2 ≤ B) (n : Nat) : val B (dg B n) = n := by
  induction n using Nat.strongRecOn with
  | _ n ih =>
    rcases Nat.eq_zero_or_pos n with rfl | hn
    · rfl
    · rw [dg_pos hB hn, val, ih _ (Nat.div_lt_self hn hB)]
      exact Nat.mod_add_div n B
theorem Dg_dg {B : Nat} (hB : 2 ≤ B) (n : Nat) : Dg B (dg B n) := by
  induction n using Nat.strongRecOn with
  | _ n ih =>
    rcases Nat.eq_zero_or_pos n with rfl | hn
    · exact Dg.nil _
    · rw [dg_pos hB hn]
      exact Dg.cons (Nat.mod_lt _ (by omega)) (ih _ (Nat.div_lt_self hn hB))
/-- Without noughts at the end. -/
def trim : List Nat → List Nat
  | [] => []
  | x :: l => if trim l = [] ∧ x = 0 then [] else x :: trim l
theorem dg_val {B : Nat} (hB : 2 ≤ B) {l : List Nat} (h : Dg B l) : dg B (val B l) = trim l := by
  induction l with
  | nil => rfl
  | cons x l ih =>
    have hx := h.head
    have ih := ih h.tail
    rw [val, trim]
    by_cases hz : x + B * val B l = 0
    · have h1 : x = 0 := by omega
      have h2 : val B l = 0 := by
        have : B * val B l = 0 := by omega
        rcases Nat.mul_eq_zero.mp this with h | h
        · omega
        · exact h
      rw [hz, if_pos ⟨by rw [← ih, h2]; rfl, h1⟩]; rfl
    · rw [dg_pos hB (by omega), if_neg, Nat.add_mul_mod_self_left, Nat.mod_eq_of_lt hx, Nat.add_mul_div_left _ _ (by omega), Nat.div_eq_of_lt hx, Nat.zero_add, ih]
      rintro ⟨h1, h2⟩
      rw [← ih] at h1
      have : val B l = 0 := by
        have := val_dg hB (val B l)
        rw [h1] at this
        exact this.symm
      rw [this, h2] at hz
      simp at hz
theorem trim_dg {B : Nat} (hB : 2 ≤ B) (n : Nat) : trim (dg B n) = dg B n := by rw [← dg_val hB (Dg_dg hB n), val_dg hB]
theorem trim_snoc_pos (l : List Nat) (x : Nat) (hx : x ≠ 0) : trim (l ++ [x]) = l ++ [x] := by
  induction l with
  | nil => simp [trim, hx]
  | cons y l ih => rw [List.cons_append, trim, ih, if_neg]; simp
theorem trim_snoc_zero (l : List Nat) : trim (l ++ [0]) = trim l := by
  induction l with
  | nil => simp [trim]
  | cons y l ih => rw [List.cons_append, trim, ih, trim]
theorem trim_take {l : List Nat} {n : Nat} (hn : n ≤ l.length) (h : n = 0 ∨ gd l (n - 1) ≠ 0) (hz : ∀ i, n ≤ i → gd l i = 0) : trim l = l.take n := by
  obtain ⟨d, hd⟩ : ∃ d, l.length = n + d := ⟨l.length - n, by omega⟩
  induction d generalizing l with
  | zero =>
    rw [List.take_of_length_le (by omega)]
    rcases List.eq_nil_or_concat l with rfl | ⟨l', x, rfl⟩
    · rfl
    · rw [List.concat_eq_append] at *
      refine trim_snoc_pos _ _ ?_
      simp only [List.length_append, List.length_cons, List.length_nil] at hd
      rcases h with h | h
      · omega
      · have h1 := gd_append_right l' [x] 0
        rw [gd_cons_zero] at h1
        rw [← h1]
        have : n - 1 = l'.length + 0 := by omega
        rw [← this]; exact h
  | succ d ih =>
    rcases List.eq_nil_or_concat l with rfl | ⟨l', x, rfl⟩
    · simp at hd
    · rw [List.concat_eq_append] at *
      simp only [List.length_append, List.length_cons, List.length_nil] at hd
      have hx : x = 0 := by
        have h1 := gd_append_right l' [x] 0
        rw [gd_cons_zero] at h1
        rw [← h1]
        exact hz _ (by omega)
      subst hx
      rw [trim_snoc_zero, List.take_append_of_le_length (by omega)]
      refine ih (by omega) ?_ ?_ (by omega)
      · rcases h with h | h
        · exact .inl h
        · rcases Nat.eq_zero_or_pos n with h0 | h0
          · exact .inl h0
          · exact .inr (by rw [gd_append_left _ _ _ (by omega)] at h; exact h)
      · intro i hi
        rcases Nat.lt_or_ge i l'.length with h1 | h1
        · have := hz i hi
          rw [gd_append_left _ _ _ h1] at this
          exact this
        · exact gd_ge h1
theorem trim_length (l : List Nat) : (trim l).length ≤ l.length := by
  induction l with
  | nil => exact Nat.le_refl _
  | cons x l ih => rw [trim]; split <;> simp <;> omega

/-! ### how many digits -/
theorem dg_len {B : Nat} (hB : 2 ≤ B) (n k : Nat) : (dg B n).length ≤ k ↔ n < B ^ k := by
  induction k generalizing n with
  | zero =>
    rcases Nat.eq_zero_or_pos n with rfl | hn
    · simp [dg_zero]
    · rw [dg_pos hB hn]; simp; omega
  | succ k ih =>
    rcases Nat.eq_zero_or_pos n with rfl | hn
    · simp [dg_zero]; exact Nat.pow_pos (by omega)
    · rw [dg_pos hB hn, List.length_cons, Nat.add_le_add_iff_right, ih, Nat.pow_succ, Nat.div_lt_iff_lt_mul (by omega)]
theorem dg_len_mono {B : Nat} (hB : 2 ≤ B) {m n : Nat} (h : m ≤ n) : (dg B m).length ≤ (dg B n).length :=
  (dg_len hB m _).mpr (Nat.lt_of_le_of_lt h ((dg_len hB n _).mp (Nat.le_refl _)))
theorem dg_len_le {B : Nat} (hB : 2 ≤ B) {n k : Nat} (h : (dg B n).length ≤ k) : n < B ^ k := (dg_len hB n k).mp h
theorem dg_lt {B : Nat} (hB : 2 ≤ B) (n : Nat) : n < B ^ (dg B n).length := (dg_len hB n _).mp (Nat.le_refl _)
theorem dg_ge {B : Nat} (hB : 2 ≤ B) {n : Nat} (hn : 0 < n) : B ^ ((dg B n).length - 1) ≤ n := by
  rcases Nat.lt_or_ge n (B ^ ((dg B n).length - 1)) with h | h
  · have := (dg_len hB n _).mpr h
    have h0 : 0 < (dg B n).length := by rw [dg_pos hB hn]; simp
    omega
  · exact h
theorem dg_inj {B : Nat} (hB : 2 ≤ B) {m n : Nat} (h : dg B m = dg B n) : m = n := by rw [← val_dg hB m, h, val_dg hB]
theorem dg_nil {B : Nat} (hB : 2 ≤ B) {n : Nat} (h : dg B n = []) : n = 0 := by rw [← val_dg hB n, h]; rfl
theorem dg_last {B : Nat} (hB : 2 ≤ B) {n : Nat} (hn : 0 < n) : 0 < gd (dg B n) ((dg B n).length - 1) := by
  rcases Nat.eq_zero_or_pos (gd (dg B n) ((dg B n).length - 1)) with h | h
  · have h0 : 0 < (dg B n).length := by rw [dg_pos hB hn]; simp
    have h1 := val_split B (dg B n) ((dg B n).length - 1) (by omega)
    rw [val_drop B _ _ (by omega), h, List.drop_of_length_le (by omega), val_dg hB] at h1
    have h2 := val_lt (B := B) (by omega) ((Dg_dg hB n).take ((dg B n).length - 1))
    rw [List.length_take, Nat.min_eq_left (by omega)] at h2
    have h3 := dg_ge hB hn
    simp only [val, Nat.mul_zero, Nat.add_zero] at h1
    omega
  · exact h
/-- From the top: where two lists of one length first differ, the lesser digit is the lesser number's. -/
theorem val_cmp {B : Nat} (hB : 0 < B) {a b : List Nat} (ha : Dg B a) (hb : Dg B b) (hl : a.length = b.length) {i : Nat} (hi : i < a.length) (he : a.drop (i + 1) = b.drop (i + 1)) (h : gd a i < gd b i) : val B a < val B b := by
  have h1 := val_split B a i (by omega)
  have h2 := val_split B b i (by omega)
  rw [val_drop B a i hi] at h1
  rw [val_drop B b i (by omega), ← he] at h2
  have h3 := val_lt hB (ha.take i)
  rw [List.length_take, Nat.min_eq_left (by omega)] at h3
  have h4 := Nat.mul_le_mul_left (B ^ i) (Nat.succ_le_of_lt h)
  rw [Nat.succ_eq_add_one, Nat.mul_add] at h4
  grind
theorem len_cmp {B : Nat} (hB : 2 ≤ B) {m n : Nat} (h : (dg B m).length < (dg B n).length) : m < n := by
  have h1 := dg_lt hB m
  have h2 : 0 < n := by
    rcases Nat.eq_zero_or_pos n with rfl | hn
    · simp [dg_zero] at h
    · exact hn
  exact Nat.lt_of_lt_of_le h1 (Nat.le_trans (Nat.pow_le_pow_right (by omega) (by omega)) (dg_ge hB h2))

/-! ### machine numbers -/
theorem wrap_id {x : Int} (h0 : -9223372036854775808 ≤ x) (h1 : x ≤ 9223372036854775807) : wrap64 x = x := by unfold wrap64; omega
theorem wrap_nat {a : Nat} (h : a ≤ 4611686018427387904) : wrap64 (a : Int) = (a : Int) := by rw [wrap_id] <;> omega
theorem wrap_add {a b : Nat} (h : a + b ≤ 4611686018427387904) : wrap64 ((a : Int) + (b : Int)) = ((a + b : Nat) : Int) := by rw [wrap_id] <;> omega
theorem wrap_mul {a b : Nat} (h : a * b ≤ 4611686018427387904) : wrap64 ((a : Int) * (b : Int)) = ((a * b : Nat) : Int) := by rw [show (a : Int) * (b : Int) = ((a * b : Nat) : Int) from (Int.natCast_mul a b).symm, wrap_nat h]
theorem tdiv10 (n : Nat) : Int.tdiv (n : Int) 10 = ((n / 10 : Nat) : Int) := by rw [Int.tdiv_eq_ediv_of_nonneg (by omega)]; omega
theorem tmod10 (n : Nat) : Int.tmod (n : Int) 10 = ((n % 10 : Nat) : Int) := by rw [Int.tmod_eq_emod_of_nonneg (by omega)]; omega
theorem nl_snoc (l : List Nat) (v : Nat) : nl l ++ [(v : Int)] = nl (l ++ [v]) := by rw [nl_append]; rfl
theorem u64_def (x : Int) : IntKind.u64.wrap x = x % 18446744073709551616 := by
  unfold IntKind.wrap
  simp [IntKind.signed, IntKind.bits]
theorem u64_id {x : Int} (h0 : 0 ≤ x) (h1 : x < 18446744073709551616) : IntKind.u64.wrap x = x := by rw [u64_def]; omega
end Go.Proofs.Ytcepdndhkidehaa.M

namespace Go.Proofs.Ytcepdndhkidehaa.PA
open Go.RowKit Go.Proofs.YtcepdndhkidehaaW.PrintWords Go.Proofs.YtcepdndhkidehaaW.PrintLast Go.Proofs.YtcepdndhkidehaaW.PrintMore
attribute [local go_sem] max2_int min2_int max_two min_two max_three min_three max_four min_four   -- for this text's walks alone
set_option linter.unusedVariables false
set_option linter.unusedSimpArgs false

/-! ### numeraryref02_Mul: function 19 -/
def numeraryref02_Mul.l0 : Nat → List Int → List Int → List Int → Int → Option (List Int)
  | 0, _, _, _, _ => none
  | k + 1, x0, x1, x5, x6 => if x6 ≥ 0 then ((numeraryref02_Times.f k x5 10).bind fun t162 => (if 0 ≤ x6 then (if x6 < (x1.length : Int) then ((numeraryref02_Times.f k x0 (rd x1 x6)).bind fun t166 => ((numeraryref02_Add.f k t162 t166).bind fun t169 => (numeraryref02_Mul.l0 k x0 x1 t169 (wrap64 (x6 - 1))))) else (none)) else (none))) else (some x5)
def numeraryref02_Mul.f (k : Nat) (l0 : List Int) (l1 : List Int) : Option (List Int) := numeraryref02_Mul.l0 k l0 l1 ([] : List Int) (wrap64 ((l1.length : Int) - 1))
theorem numeraryref02_Mul.mono_l : ∀ k, (∀ y0 y1 y2 y3, LeO (numeraryref02_Mul.l0 k y0 y1 y2 y3) (numeraryref02_Mul.l0 (k + 1) y0 y1 y2 y3))
  | 0 => fun _ _ _ _ r h => by simp [numeraryref02_Mul.l0] at h
  | k + 1 => by
    have ih0 := numeraryref02_Mul.mono_l k
    · intro y0 y1 y2 y3
      unfold numeraryref02_Mul.l0
      repeat' first
      | (with_reducible exact ih0 _ _ _ _)
      | (with_reducible exact numeraryref02_Add.mono _ _ _)
      | (with_reducible exact numeraryref02_Times.mono _ _ _)
      | (with_reducible exact LeO.refl _)
      | (with_reducible exact LeO.none _)
      | (with_reducible refine LeO.ite ?_ ?_)
      | (with_reducible refine LeO.bind ?_ (fun _ => ?_))
      | exact ih0 _ _ _ _
      | exact numeraryref02_Add.mono _ _ _
      | exact numeraryref02_Times.mono _ _ _
      | exact LeO.none _
      | refine LeO.ite ?_ ?_
      | refine LeO.bind ?_ (fun _ => ?_)
theorem numeraryref02_Mul.mono : ∀ a0 a1 k, LeO (numeraryref02_Mul.f k a0 a1) (numeraryref02_Mul.f (k + 1) a0 a1) := by
  intro a0 a1 k
  have ih0 := numeraryref02_Mul.mono_l k
  unfold numeraryref02_Mul.f
  repeat' first
      | (with_reducible exact ih0 _ _ _ _)
      | (with_reducible exact numeraryref02_Add.mono _ _ _)
      | (with_reducible exact numeraryref02_Times.mono _ _ _)
      | (with_reducible exact LeO.refl _)
      | (with_reducible exact LeO.none _)
      | (with_reducible refine LeO.ite ?_ ?_)
      | (with_reducible refine LeO.bind ?_ (fun _ => ?_))
      | exact ih0 _ _ _ _
      | exact numeraryref02_Add.mono _ _ _
      | exact numeraryref02_Times.mono _ _ _
      | exact LeO.none _
      | refine LeO.ite ?_ ?_
      | refine LeO.bind ?_ (fun _ => ?_)
set_option maxHeartbeats 8000000 in
set_option maxRecDepth 100000 in
theorem numeraryref02_Mul.calls (k : Nat) (A0 : Option Addr) (c0 : Nat) (l0 : List Int) (A1 : Option Addr) (c1 : Nat) (l1 : List Int) (r : List Int) (w : World) (hr0 : Kd.C (Kd.int .i64) w A0 l0.length l0) (hc0 : l0.length ≤ c0) (hr1 : Kd.C (Kd.int .i64) w A1 l1.length l1) (hc1 : l1.length ≤ c1) (h : numeraryref02_Mul.f k l0 l1 = some r) :
    Calls Try.prog 19 #[.slice A0 l0.length c0, .slice A1 l1.length c1] w fun e w' => ∃ v0_ : Value, e = .returned (v0_) ∧ Kd.R (Kd.int .i64) 3 w' w.heap.size (fun _ => True) v0_ r ∧ Below w.heap.size w w' := by
  have HR0 := Aside0.mk hr0
  have HC0 := Aside0.mk hc0
  clear hr0 hc0
  have HR1 := Aside0.mk hr1
  have HC1 := Aside0.mk hc1
  clear hr1 hc1
  have HB := Aside0.mk (Below.refl w.heap.size w)
  have H : (numeraryref02_Mul.l0 k l0 l1 ([] : List Int) (wrap64 ((l1.length : Int) - 1))) = some r := h
  clear h
  have H' := Aside0.mk H
  clear H
  go_enter Try.func19, Try.ntmps19
  go_wp2
  (try simp only [Act.put, List.setIfInBounds_toArray, List.set_cons_zero, List.set_cons_succ])
  go_loopg [5, 6] k (fun kq v5 v6 w' => ∃ (x5_1 : List Int) (x6_1 : Int), v6 = .int .i64 x6_1 ∧ Aside0 (numeraryref02_Mul.l0 kq l0 l1 x5_1 x6_1 = some r) ∧ Aside0 (kq ≤ k) ∧ Aside0 (Kd.R (Kd.int .i64) 3 w' w.heap.size (fun _ => True) v5 x5_1) ∧ Aside0 (Below w.heap.size w w'))
  case atStart => exact ⟨(([] : List Int)), (wrap64 ((l1.length : Int) - 1)), (by first | rfl | (simp; done) | (simp [*]; done)), H', ⟨Nat.le_refl _⟩, ⟨by first | exact Kd.R_nil _ _ _ _ _ | exact Kd.N_nil _ _ _ _ _ | exact Kd.V_nil _ _ _ _ _ | exact Kd.Q_nil _ _ _ _ _ | exact Kd.S_nil _ _ _ _ _⟩, ⟨by repeat (first | (with_reducible first | exact HB.out | apply below_alloc | apply pw_below_drewN | apply below_drew1) | exact HB.out)⟩⟩
  case round =>
    clear H'
    try clear c1
    try clear p2
    obtain ⟨x5_1, x6_1, rfl, HA, HK1, HO_5, HB⟩ := hrel
    cases gk with
    | zero => exact absurd HA.out (by simp [numeraryref02_Mul.l0])
    | succ k1 =>
      have H := HA.out
      clear HA
      simp only [numeraryref02_Mul.l0] at H
      by_cases c3 : x6_1 ≥ 0
      · rw [if_pos c3] at H
        have c3b0 : decide (0 ≤ x6_1) = true := decide_eq_true c3
        clear c3
        replace H := Option.bind_eq_some_iff.mp H
        obtain ⟨t162, A40, H⟩ := H
        replace H : (if 0 ≤ x6_1 then (if x6_1 < (l1.length : Int) then ((numeraryref02_Times.f k1 l0 (rd l1 x6_1)).bind fun t166 => ((numeraryref02_Add.f k1 t162 t166).bind fun t169 => (numeraryref02_Mul.l0 k1 l0 l1 t169 (wrap64 (x6_1 - 1))))) else (none)) else (none)) = some r := H
        have A4 := Aside0.mk A40
        clear A40
        by_cases c5 : 0 ≤ x6_1
        · rw [if_pos c5] at H
          have c5b0 : decide (0 ≤ x6_1) = true := decide_eq_true c5
          clear c5
          by_cases c6 : x6_1 < (l1.length : Int)
          · rw [if_pos c6] at H
            have c6b0 : decide (x6_1 < (l1.length : Int)) = true := decide_eq_true c6
            clear c6
            replace H := Option.bind_eq_some_iff.mp H
            obtain ⟨t166, A70, H⟩ := H
            replace H : ((numeraryref02_Add.f k1 t162 t166).bind fun t169 => (numeraryref02_Mul.l0 k1 l0 l1 t169 (wrap64 (x6_1 - 1)))) = some r := H
            have A7 := Aside0.mk A70
            clear A70
            replace H := Option.bind_eq_some_iff.mp H
            obtain ⟨t169, A80, H⟩ := H
            replace H : (numeraryref02_Mul.l0 k1 l0 l1 t169 (wrap64 (x6_1 - 1))) = some r := H
            have A8 := Aside0.mk A80
            clear A80
            have H' := Aside0.mk H
            clear H
            obtain ⟨Ao9, co9, eo9⟩ := Kd.R_slice HO_5.out
            subst eo9
            go_wp2_with (first | ((with_reducible refine gate_callee (f := 20) rfl ?_); refine goesL_ (some 16) rfl rfl Try.func20 (by kernel_rfl) rfl #[.slice Ao9 x5_1.length co9, .int .i64 10] rfl (by (try simp only [List.map_toArray, List.map_cons, List.map_nil]); first | done | rfl | (simp only [List.length_drop, List.length_take]; rfl)) ?_; (with_reducible refine (numeraryref02_Times.calls k1 _ _ x5_1 10 t162 _ ?side1 ?side2 A4.out).mono ?_); (case side1 => repeat (first | exact (Kd.R_reads' HO_5.out).2.2 | (with_reducible refine Kd.C_alloc ?_ _) | (with_reducible refine Kd.C_drewN ?_ _) | (with_reducible refine Kd.C_drew ?_))); (case side2 => exact (Kd.R_reads' HO_5.out).2.1); rintro e w10 ⟨v163, rfl, ho0, hb⟩; refine ⟨_, rfl, ?_⟩; have n0_ := Aside0.mk (Kd.R_elder' (by (with_reducible repeat (first | apply Kd.R_alloc | apply Kd.R_drewN | apply Kd.R_drew)); exact HO_5.out) (Kd.R_base ho0) hb); have n1_ := Aside0.mk (Kd.R_lower (Kd.R_new' ho0 (Kd.R_lt (by (with_reducible repeat (first | apply Kd.R_alloc | apply Kd.R_drewN | apply Kd.R_drew)); exact HO_5.out))) (below_size (by repeat (first | (with_reducible first | exact HB.out | apply below_alloc | apply pw_below_drewN | apply below_drew1) | exact HB.out)))); have n2_ := Aside0.mk (below_step (by repeat (first | (with_reducible first | exact HB.out | apply below_alloc | apply pw_below_drewN | apply below_drew1) | exact HB.out)) hb); clear HO_5; clear HB; have HO_5 := n0_; have HO164 := n1_; have HB := n2_; clear n0_ n1_ n2_; (try clear hb); (try clear hb2); (try clear hk); (try clear hi); (try clear ho0); have p165 : 0 ≤ (x6_1 : Int) := of_decide_eq_true (by first | (with_reducible assumption) | assumption); have q165 : x6_1 < (l1.length : Int) := of_decide_eq_true (by first | (with_reducible assumption) | assumption); obtain ⟨ad165, e165, hx165_0⟩ := Kd.at_int HR1.out x6_1 p165 q165; cases e165; replace hx165_0 := (HB.out.cell (World.block_lt_of_cell? w _ hx165_0)).trans hx165_0; replace p165 := eq_true p165; replace q165 := eq_true q165) | ((with_reducible refine gate_callee (f := 20) rfl ?_); refine goesL_ (some 22) rfl rfl Try.func20 (by kernel_rfl) rfl #[.slice A0 l0.length c0, .int .i64 (rd l1 x6_1)] rfl (by (try simp only [List.map_toArray, List.map_cons, List.map_nil]); first | done | rfl | (simp only [List.length_drop, List.length_take]; rfl)) ?_; (with_reducible refine (numeraryref02_Times.calls k1 _ _ l0 (rd l1 x6_1) t166 _ ?side1 ?side2 A7.out).mono ?_); (case side1 => repeat (first | exact (Kd.C_below HR0.out HB.out) | (with_reducible refine Kd.C_alloc ?_ _) | (with_reducible refine Kd.C_drewN ?_ _) | (with_reducible refine Kd.C_drew ?_))); (case side2 => exact HC0.out); rintro e w11 ⟨v167, rfl, ho0, hb⟩; refine ⟨_, rfl, ?_⟩; have n0_ := Aside0.mk (Kd.R_elder' (by (with_reducible repeat (first | apply Kd.R_alloc | apply Kd.R_drewN | apply Kd.R_drew)); exact HO_5.out) (Kd.R_base ho0) hb); have n1_ := Aside0.mk (Kd.R_elder' (by (with_reducible repeat (first | apply Kd.R_alloc | apply Kd.R_drewN | apply Kd.R_drew)); exact HO164.out) (Kd.R_base ho0) hb); have n2_ := Aside0.mk (Kd.R_lower (Kd.R_new' (Kd.R_new' ho0 (Kd.R_lt (by (with_reducible repeat (first | apply Kd.R_alloc | apply Kd.R_drewN | apply Kd.R_drew)); exact HO_5.out))) (Kd.R_lt (by (with_reducible repeat (first | apply Kd.R_alloc | apply Kd.R_drewN | apply Kd.R_drew)); exact HO164.out))) (below_size (by repeat (first | (with_reducible first | exact HB.out | apply below_alloc | apply pw_below_drewN | apply below_drew1) | exact HB.out)))); have n3_ := Aside0.mk (below_step (by repeat (first | (with_reducible first | exact HB.out | apply below_alloc | apply pw_below_drewN | apply below_drew1) | exact HB.out)) hb); clear HO_5; clear HO164; clear HB; have HO_5 := n0_; have HO164 := n1_; have HO168 := n2_; have HB := n3_; clear n0_ n1_ n2_ n3_; (try clear hb); (try clear hb2); (try clear hk); (try clear hi); (try clear ho0); obtain ⟨Ao12, co12, eo12⟩ := Kd.R_slice HO164.out; subst eo12; obtain ⟨Ao13, co13, eo13⟩ := Kd.R_slice HO168.out; subst eo13) | ((with_reducible refine gate_callee (f := 39) rfl ?_); refine goesL_ (some 25) rfl rfl Try.func39 (by kernel_rfl) rfl #[.slice Ao12 t162.length co12, .slice Ao13 t166.length co13] rfl (by (try simp only [List.map_toArray, List.map_cons, List.map_nil]); first | done | rfl | (simp only [List.length_drop, List.length_take]; rfl)) ?_; (with_reducible refine (numeraryref02_Add.calls k1 _ _ t162 _ _ t166 t169 _ ?side1 ?side2 ?side3 ?side4 A8.out).mono ?_); (case side1 => repeat (first | exact (Kd.R_reads' HO164.out).2.2 | (with_reducible refine Kd.C_alloc ?_ _) | (with_reducible refine Kd.C_drewN ?_ _) | (with_reducible refine Kd.C_drew ?_))); (case side2 => exact (Kd.R_reads' HO164.out).2.1); (case side3 => repeat (first | exact (Kd.R_reads' HO168.out).2.2 | (with_reducible refine Kd.C_alloc ?_ _) | (with_reducible refine Kd.C_drewN ?_ _) | (with_reducible refine Kd.C_drew ?_))); (case side4 => exact (Kd.R_reads' HO168.out).2.1); rintro e w14 ⟨v170, rfl, ho0, hb⟩; refine ⟨_, rfl, ?_⟩; have n0_ := Aside0.mk (Kd.R_elder' (by (with_reducible repeat (first | apply Kd.R_alloc | apply Kd.R_drewN | apply Kd.R_drew)); exact HO_5.out) (Kd.R_base ho0) hb); have n1_ := Aside0.mk (Kd.R_elder' (by (with_reducible repeat (first | apply Kd.R_alloc | apply Kd.R_drewN | apply Kd.R_drew)); exact HO164.out) (Kd.R_base ho0) hb); have n2_ := Aside0.mk (Kd.R_elder' (by (with_reducible repeat (first | apply Kd.R_alloc | apply Kd.R_drewN | apply Kd.R_drew)); exact HO168.out) (Kd.R_base ho0) hb); have n3_ := Aside0.mk (Kd.R_lower (Kd.R_new' (Kd.R_new' (Kd.R_new' ho0 (Kd.R_lt (by (with_reducible repeat (first | apply Kd.R_alloc | apply Kd.R_drewN | apply Kd.R_drew)); exact HO_5.out))) (Kd.R_lt (by (with_reducible repeat (first | apply Kd.R_alloc | apply Kd.R_drewN | apply Kd.R_drew)); exact HO164.out))) (Kd.R_lt (by (with_reducible repeat (first | apply Kd.R_alloc | apply Kd.R_drewN | apply Kd.R_drew)); exact HO168.out))) (below_size (by repeat (first | (with_reducible first | exact HB.out | apply below_alloc | apply pw_below_drewN | apply below_drew1) | exact HB.out)))); have n4_ := Aside0.mk (below_step (by repeat (first | (with_reducible first | exact HB.out | apply below_alloc | apply pw_below_drewN | apply below_drew1) | exact HB.out)) hb); clear HO_5; clear HO164; clear HO168; clear HB; have HO_5 := n0_; have HO164 := n1_; have HO168 := n2_; have HO171 := n3_; have HB := n4_; clear n0_ n1_ n2_ n3_ n4_; (try clear hb); (try clear hb2); (try clear hk); (try clear hi); (try clear ho0)))
            go_roundg k1
            case measure => have := HK1.out; omega
            case rel => exact ⟨(t169), (wrap64 (x6_1 - 1)), (by first | rfl | (simp; done) | (simp [*]; done)), H', ⟨by have := HK1.out; omega⟩, ⟨by (with_reducible repeat (first | apply Kd.R_alloc | apply Kd.R_drewN | apply Kd.R_drew)); exact Kd.R_mono HO171.out (fun _ hk => trivial)⟩, ⟨by repeat (first | (with_reducible first | exact HB.out | apply below_alloc | apply pw_below_drewN | apply below_drew1) | exact HB.out)⟩⟩
          · rw [if_neg c6] at H
            exact absurd H (by simp)
        · rw [if_neg c5] at H
          exact absurd H (by simp)
      · rw [if_neg c3] at H
        have c3b0 : decide (0 ≤ x6_1) = false := decide_eq_false c3
        clear c3
        obtain rfl := Option.some.inj H
        go_wp2
        go_ret
        exact ⟨_, by first | rfl | (simp [errW_none, errW_some] <;> rfl) | (simp [*, errW_none, errW_some] <;> rfl), by (with_reducible repeat (first | apply Kd.R_alloc | apply Kd.R_drewN | apply Kd.R_drew)); exact HO_5.out, by repeat (first | (with_reducible first | exact HB.out | apply below_alloc | apply pw_below_drewN | apply below_drew1) | exact HB.out)⟩

end Go.Proofs.Ytcepdndhkidehaa.PA


namespace Go.Proofs.Ytcepdndhkidehaa.M
open Go.RowKit Go.Proofs.YtcepdndhkidehaaW.PrintWords Go.Proofs.YtcepdndhkidehaaW.PrintLast Go.Proofs.YtcepdndhkidehaaW.PrintMore Go.Proofs.Ytcepdndhkidehaa.PA
set_option linter.unusedVariables false
set_option linter.unusedSimpArgs false

/-- A number's limbs, and its decimals. -/
def L (n : Nat) : List Int := nl (dg 4294967296 n)
def D (n : Nat) : List Int := nl (dg 10 n)
theorem b32 : 2 ≤ 4294967296 := by decide
theorem b10 : 2 ≤ 10 := by decide
def ln (n : Nat) : Nat := (dg 4294967296 n).length
def dn (n : Nat) : Nat := (dg 10 n).length
theorem L_length (n : Nat) : (L n).length = ln n := nl_length _
theorem D_length (n : Nat) : (D n).length = dn n := nl_length _

theorem pred_wrap {n : Nat} (h : n ≤ 4611686018427387904) : wrap64 (((n + 1 : Nat) : Int) - 1) = (n : Int) := by rw [wrap_id] <;> omega
theorem succ_wrap {n : Nat} (h : n ≤ 4611686018427387904) : wrap64 ((n : Int) + 1) = ((n + 1 : Nat) : Int) := by rw [wrap_id] <;> omega
theorem zero_pred : wrap64 (((0 : Nat) : Int) - 1) = -1 := by rw [wrap_id] <;> omega

theorem clone_nl {l : List Int} (h : l.length ≤ 1099511627776) : slices_Clone_uint32_uint32.f l = some l := by
  unfold slices_Clone_uint32_uint32.f
  rw [Option.bind_some, if_pos (by simp; omega), List.nil_append]
theorem limbs_nl {l : List Int} (h : l.length ≤ 1099511627776) : nat_Nat_Limbs.f l = some l := by
  unfold nat_Nat_Limbs.f; rw [clone_nl h]; rfl

theorem made_loop {l : List Nat} (hl : l.length ≤ 1099511627776) : ∀ n, n ≤ l.length → (∀ i, n ≤ i → gd l i = 0) → Ev (fun k => nat_Made.l0 k (nl l) (n : Int)) (nl (trim l)) := by
  intro n
  have fin : ∀ n, n ≤ l.length → (n = 0 ∨ gd l (n - 1) ≠ 0) → (∀ i, n ≤ i → gd l i = 0) → slices_Clone_uint32_uint32.f ((nl l).take ((n : Int)).toNat) = some (nl (trim l)) := by
    intro n hn h1 h2
    rw [Int.toNat_natCast, nl_take, clone_nl (by rw [nl_length, List.length_take]; omega), trim_take hn h1 h2]
  induction n with
  | zero =>
    intro hn hz
    refine Ev.step (fun k => by rw [nat_Made.l0]) ?_
    refine ev_neg (by omega) (ev_pos (by omega) (ev_pos (by rw [nl_length]; omega) (ev_some (fin 0 hn (.inl rfl) hz) (Ev.now _))))
  | succ n ih =>
    intro hn hz
    refine Ev.step (fun k => by rw [nat_Made.l0, pred_wrap (by omega)]) ?_
    refine ev_pos (by omega) (ev_pos (by omega) (ev_pos (by rw [nl_length]; omega) ?_))
    by_cases h0 : gd l n = 0
    · refine ev_pos (by rw [rd_nl, h0]; rfl) (ih (by omega) fun i hi => ?_)
      rcases Nat.lt_or_eq_of_le hi with h | rfl
      · exact hz i h
      · exact h0
    · refine ev_neg (by rw [rd_nl]; omega) (ev_pos (by omega) (ev_pos (by rw [nl_length]; omega) (ev_some (fin (n + 1) hn (.inr (by simpa using h0)) hz) (Ev.now _))))
theorem made_nl {l : List Nat} (hl : l.length ≤ 1099511627776) : Ev (fun k => nat_Made.f k (nl l)) (nl (trim l)) := by
  have := made_loop hl l.length (Nat.le_refl _) (fun i hi => gd_ge hi)
  unfold nat_Made.f
  rw [nl_length]
  exact this
theorem made_val {l : List Nat} (hl : l.length ≤ 1099511627776) (h : Dg 4294967296 l) : Ev (fun k => nat_Made.f k (nl l)) (L (val 4294967296 l)) := by
  unfold L; rw [dg_val b32 h]; exact made_nl hl

theorem rtrim_loop {l : List Nat} (hl : l.length ≤ 1099511627776) : ∀ n, n ≤ l.length → (∀ i, n ≤ i → gd l i = 0) → Ev (fun k => numeraryref02_trim.l0 k (nl l) (n : Int)) (nl (trim l)) := by
  intro n
  have fin : ∀ n, n ≤ l.length → (n = 0 ∨ gd l (n - 1) ≠ 0) → (∀ i, n ≤ i → gd l i = 0) → (nl l).take ((n : Int)).toNat = nl (trim l) := by
    intro n hn h1 h2
    rw [Int.toNat_natCast, nl_take, trim_take hn h1 h2]
  induction n with
  | zero =>
    intro hn hz
    refine Ev.step (fun k => by rw [numeraryref02_trim.l0]) ?_
    exact ev_neg (by omega) (ev_pos (by omega) (ev_pos (by rw [nl_length]; omega) (ev_now (fin 0 hn (.inl rfl) hz))))
  | succ n ih =>
    intro hn hz
    refine Ev.step (fun k => by rw [numeraryref02_trim.l0, pred_wrap (by omega)]) ?_
    refine ev_pos (by omega) (ev_pos (by omega) (ev_pos (by rw [nl_length]; omega) ?_))
    by_cases h0 : gd l n = 0
    · refine ev_pos (by rw [rd_nl, h0]; rfl) (ih (by omega) fun i hi => ?_)
      rcases Nat.lt_or_eq_of_le hi with h | rfl
      · exact hz i h
      · exact h0
    · exact ev_neg (by rw [rd_nl]; omega) (ev_pos (by omega) (ev_pos (by rw [nl_length]; omega) (ev_now (fin (n + 1) hn (.inr (by simpa using h0)) hz))))
theorem rtrim_val {l : List Nat} (hl : l.length ≤ 1099511627776) (h : Dg 10 l) : Ev (fun k => numeraryref02_trim.f k (nl l)) (D (val 10 l)) := by
  have := rtrim_loop hl l.length (Nat.le_refl _) (fun i hi => gd_ge hi)
  unfold numeraryref02_trim.f D
  rw [nl_length, dg_val b10 h]
  exact this

/-- of up to 64 bits. -/
theorem of_val {n : Nat} (hn : n < 18446744073709551616) : Ev (fun k => nat_Of.f k (n : Int)) (L n) := by
  have h : Dg 4294967296 [n % 4294967296, n / 4294967296] := Dg.cons (Nat.mod_lt _ (by decide)) (Dg.cons (by omega) (Dg.nil _))
  have h1 := made_val (l := [n % 4294967296, n / 4294967296]) (by simp) h
  have h2 : val 4294967296 [n % 4294967296, n / 4294967296] = n := by simp only [val]; omega
  rw [h2] at h1
  refine Ev.congr (fun k => by unfold nat_Of.f; rfl) ?_
  have h3 : ([(n : Int) % 4294967296, ((n : Int) / 4294967296) % 4294967296] : List Int) = nl [n % 4294967296, n / 4294967296] := by
    rw [nl_cons, nl_cons, nl_nil]
    congr 2
    omega
  rw [h3]
  exact h1.bind (Ev.now _)

/-! ### the document's -/
theorem rat_nl (l : List Nat) (i : Nat) : numeraryref02_at.f (nl l) (i : Int) = some ((gd l i : Nat) : Int) := by
  unfold numeraryref02_at.f
  by_cases h : i < l.length
  · rw [if_pos (by rw [nl_length]; omega), if_pos (by omega), rd_nl]
  · rw [if_neg (by rw [nl_length]; omega), gd_ge (by omega)]; rfl
theorem nat_at_nl (l : List Nat) (i : Nat) : nat_Nat_at.f (nl l) (i : Int) = some ((gd l i : Nat) : Int) := by
  unfold nat_Nat_at.f
  by_cases h : i < l.length
  · rw [if_pos (by rw [nl_length]; omega), if_pos (by omega), rd_nl]
  · rw [if_neg (by rw [nl_length]; omega), gd_ge (by omega)]; rfl

theorem rof_loop : ∀ (n : Nat) (out : List Nat), n < 18446744073709551616 → out.length + (dg 10 n).length ≤ 1000 → Ev (fun k => numeraryref02_Of.l0 k (n : Int) (nl out)) (nl (out ++ dg 10 n)) := by
  intro n
  induction n using Nat.strongRecOn with
  | _ n ih =>
    intro out hn hl
    refine Ev.step (fun k => by rw [numeraryref02_Of.l0]) ?_
    rcases Nat.eq_zero_or_pos n with rfl | h0
    · exact ev_neg (by omega) (ev_now (by rw [dg_zero, List.append_nil]))
    · rw [dg_pos b10 h0] at hl ⊢
      simp only [List.length_cons] at hl
      refine ev_pos (by omega) (ev_pos (by rw [nl_length]; omega) ?_)
      have h1 : IntKind.u64.wrap (Int.tdiv (n : Int) 10) = ((n / 10 : Nat) : Int) := by
        rw [Int.tdiv_eq_ediv_of_nonneg (by omega), u64_id] <;> omega
      have h2 : wrap64 (Int.tmod (n : Int) 10) = ((n % 10 : Nat) : Int) := by
        rw [Int.tmod_eq_emod_of_nonneg (by omega), wrap_id] <;> omega
      have h3 := ih (n / 10) (by omega) (out ++ [n % 10]) (by omega) (by simp only [List.length_append, List.length_cons, List.length_nil]; omega)
      rw [h1, h2, show nl out ++ [((n % 10 : Nat) : Int)] = nl (out ++ [n % 10]) by rw [nl_append]; rfl]
      rw [List.append_assoc] at h3
      exact h3
theorem rof_val {n : Nat} (hn : n < 18446744073709551616) : Ev (fun k => numeraryref02_Of.f k (n : Int)) (D n) := by
  have h : (dg 10 n).length ≤ 20 := (dg_len b10 n 20).mpr (by omega)
  exact rof_loop n [] hn (by simp; omega)

/-! times a small number -/
theorem rtimes_tail (a : List Nat) (m : Nat) (hm : m < 1099511627776) : ∀ (c : Nat) (out : List Nat), c ≤ m → Dg 10 out → a.length ≤ out.length → out.length + (dg 10 c).length ≤ 1099511627776 →
    Ev (fun k => numeraryref02_Times.l0 k (nl a) (m : Int) (nl out) (c : Int) (out.length : Int)) (D (val 10 out + 10 ^ out.length * c)) := by
  intro c
  induction c using Nat.strongRecOn with
  | _ c ih =>
    intro out hc ho hl hb
    refine Ev.step (fun k => by rw [numeraryref02_Times.l0]) ?_
    refine ev_neg (by rw [nl_length]; omega) ?_
    rcases Nat.eq_zero_or_pos c with rfl | h0
    · refine ev_neg (by omega) ?_
      rw [Nat.mul_zero, Nat.add_zero]
      exact (rtrim_val (by omega) ho).bind (Ev.now _)
    · rw [dg_pos b10 h0] at hb
      simp only [List.length_cons] at hb
      refine ev_pos (by omega) (ev_some (rat_nl a out.length) (ev_pos (by rw [nl_length]; omega) ?_))
      rw [gd_ge hl, show wrap64 ((c : Int) + wrap64 (((0 : Nat) : Int) * (m : Int))) = (c : Int) by rw [show (((0 : Nat) : Int) * (m : Int)) = 0 by simp, wrap_id (x := 0) (by omega) (by omega), wrap_id] <;> omega]
      have h1 : wrap64 (Int.tdiv (c : Int) 10) = ((c / 10 : Nat) : Int) := by
        rw [Int.tdiv_eq_ediv_of_nonneg (by omega), wrap_id] <;> omega
      have h2 : Int.tmod (c : Int) 10 = ((c % 10 : Nat) : Int) := by
        rw [Int.tmod_eq_emod_of_nonneg (by omega)]; omega
      have h3 := ih (c / 10) (by omega) (out ++ [c % 10]) (by omega) (ho.append (Dg.cons (Nat.mod_lt _ (by decide)) (Dg.nil _))) (by simp; omega) (by simp only [List.length_append, List.length_cons, List.length_nil]; omega)
      rw [h1, h2, succ_wrap (by omega), show nl out ++ [((c % 10 : Nat) : Int)] = nl (out ++ [c % 10]) by rw [nl_append]; rfl]
      rw [val_snoc, List.length_append, List.length_cons, List.length_nil, Nat.zero_add] at h3
      have h4 : val 10 out + 10 ^ out.length * (c % 10) + 10 ^ (out.length + 1) * (c / 10) = val 10 out + 10 ^ out.length * c := by
        have := Nat.mod_add_div c 10
        rw [Nat.pow_succ]
        grind
      rw [h4] at h3
      exact h3
theorem rtimes_head (a : List Nat) (m : Nat) (hm : m < 1099511627776) (ha : Dg 10 a) (hb : a.length ≤ 549755813888) : ∀ (d c : Nat) (out : List Nat), out.length + d = a.length → c ≤ m → Dg 10 out → val 10 out + 10 ^ out.length * c = val 10 (a.take out.length) * m →
    Ev (fun k => numeraryref02_Times.l0 k (nl a) (m : Int) (nl out) (c : Int) (out.length : Int)) (D (val 10 a * m)) := by
  intro d
  induction d with
  | zero =>
    intro c out hd hc ho hv
    have h1 : (dg 10 c).length ≤ 20 := (dg_len b10 c 20).mpr (by omega)
    have := rtimes_tail a m hm c out hc ho (by omega) (by omega)
    rw [hv, List.take_of_length_le (by omega)] at this
    exact this
  | succ d ih =>
    intro c out hd hc ho hv
    have hg := ha.gd (by decide) out.length
    refine Ev.step (fun k => by rw [numeraryref02_Times.l0]) ?_
    refine ev_pos (by rw [nl_length]; omega) (ev_some (rat_nl a out.length) (ev_pos (by rw [nl_length]; omega) ?_))
    obtain ⟨g, hge⟩ : ∃ g, gd a out.length = g := ⟨_, rfl⟩
    rw [hge] at hg ⊢
    have hgm : g * m ≤ 9 * m := Nat.mul_le_mul_right m (by omega)
    obtain ⟨p, hp⟩ : ∃ p, g * m = p := ⟨_, rfl⟩
    rw [hp] at hgm
    rw [wrap_mul (by rw [hp]; omega), hp, wrap_add (by omega), tdiv10, tmod10, wrap_nat (by omega), succ_wrap (by omega), nl_snoc]
    have h3 := ih ((c + p) / 10) (out ++ [(c + p) % 10]) (by simp only [List.length_append, List.length_cons, List.length_nil]; omega) (by omega) (ho.append (Dg.cons (Nat.mod_lt _ (by decide)) (Dg.nil _)))
    rw [val_snoc, List.length_append, List.length_cons, List.length_nil, Nat.zero_add] at h3
    refine h3 ?_
    rw [val_take_succ, hge]
    have := Nat.mod_add_div (c + p) 10
    rw [Nat.pow_succ]
    grind
theorem rtimes_val {a : List Nat} {m : Nat} (ha : Dg 10 a) (hb : a.length ≤ 549755813888) (hm : m < 1099511627776) : Ev (fun k => numeraryref02_Times.f k (nl a) (m : Int)) (D (val 10 a * m)) :=
  rtimes_head a m hm ha hb a.length 0 [] (by simp) (Nat.zero_le _) (Dg.nil _) (by simp [val])
theorem rtimes_D {n m : Nat} (hb : dn n ≤ 549755813888) (hm : m < 1099511627776) : Ev (fun k => numeraryref02_Times.f k (D n) (m : Int)) (D (n * m)) := by
  have := rtimes_val (Dg_dg b10 n) hb hm
  rw [val_dg b10] at this
  exact this

/-! the sum -/
theorem radd_step (a b : List Nat) (ha : Dg 10 a) (hb : Dg 10 b) (c : Nat) (out : List Nat) (hl : out.length ≤ 1099511627776) (hc : c ≤ 1) {r : List Int}
    (h : Ev (fun k => numeraryref02_Add.l0 k (nl a) (nl b) (nl (out ++ [(c + gd a out.length + gd b out.length) % 10])) (((c + gd a out.length + gd b out.length) / 10 : Nat) : Int) ((out.length + 1 : Nat) : Int)) r) :
    Ev (fun k => numeraryref02_Add.j1 k (nl a) (nl b) (nl out) (c : Int) (out.length : Int) true) r := by
  refine Ev.step (fun k => by rw [numeraryref02_Add.j1]) ?_
  refine ev_pos rfl (ev_some (rat_nl a out.length) (ev_some (rat_nl b out.length) (ev_pos (by rw [nl_length]; omega) ?_)))
  have hg := ha.gd (by decide) out.length
  have hg2 := hb.gd (by decide) out.length
  obtain ⟨g, hge⟩ : ∃ g, gd a out.length = g := ⟨_, rfl⟩
  obtain ⟨g2, hge2⟩ : ∃ g, gd b out.length = g := ⟨_, rfl⟩
  rw [hge] at hg h ⊢
  rw [hge2] at hg2 h ⊢
  rw [show wrap64 (wrap64 ((c : Int) + (g : Int)) + (g2 : Int)) = ((c + g + g2 : Nat) : Int) by rw [wrap_id (x := (c : Int) + (g : Int)) (by omega) (by omega), wrap_id] <;> omega]
  have h1 : wrap64 (Int.tdiv ((c + g + g2 : Nat) : Int) 10) = (((c + g + g2) / 10 : Nat) : Int) := by
    rw [Int.tdiv_eq_ediv_of_nonneg (by omega), wrap_id] <;> omega
  have h2 : Int.tmod ((c + g + g2 : Nat) : Int) 10 = (((c + g + g2) % 10 : Nat) : Int) := by
    rw [Int.tmod_eq_emod_of_nonneg (by omega)]; omega
  rw [h1, h2, succ_wrap (by omega), show nl out ++ [(((c + g + g2) % 10 : Nat) : Int)] = nl (out ++ [(c + g + g2) % 10]) by rw [nl_append]; rfl]
  exact h
theorem radd_loop (a b : List Nat) (ha : Dg 10 a) (hb : Dg 10 b) (hl : a.length ≤ 549755813888) (hl2 : b.length ≤ 549755813888) : ∀ (d c : Nat) (out : List Nat), max a.length b.length + 1 ≤ out.length + d → out.length ≤ max a.length b.length + 1 → (out.length = max a.length b.length + 1 → c = 0) → c ≤ 1 → Dg 10 out → val 10 out + 10 ^ out.length * c = val 10 (a.take out.length) + val 10 (b.take out.length) →
    Ev (fun k => numeraryref02_Add.l0 k (nl a) (nl b) (nl out) (c : Int) (out.length : Int)) (D (val 10 a + val 10 b)) := by
  intro d
  have fin : ∀ (c : Nat) (out : List Nat), max a.length b.length ≤ out.length → out.length ≤ max a.length b.length + 1 → c = 0 → Dg 10 out → val 10 out + 10 ^ out.length * c = val 10 (a.take out.length) + val 10 (b.take out.length) →
      Ev (fun k => numeraryref02_Add.l0 k (nl a) (nl b) (nl out) (c : Int) (out.length : Int)) (D (val 10 a + val 10 b)) := by
    intro c out h1 h2 h3 ho hv
    subst h3
    refine Ev.step (fun k => by rw [numeraryref02_Add.l0]) ?_
    refine ev_neg (by rw [nl_length]; omega) (ev_neg (by rw [nl_length]; omega) ?_)
    refine Ev.step (fun k => by rw [numeraryref02_Add.j1]) ?_
    refine ev_neg (by simp) ?_
    rw [List.take_of_length_le (by omega), List.take_of_length_le (by omega), Nat.mul_zero, Nat.add_zero] at hv
    rw [← hv]
    exact (rtrim_val (by omega) ho).bind (Ev.now _)
  induction d with
  | zero =>
    intro c out h1 h2 h3 h4 ho hv
    exact fin c out (by omega) h2 (h3 (by omega)) ho hv
  | succ d ih =>
    intro c out h1 h2 h3 h4 ho hv
    have hg := ha.gd (by decide) out.length
    have hg2 := hb.gd (by decide) out.length
    have more : out.length ≤ max a.length b.length → Ev (fun k => numeraryref02_Add.j1 k (nl a) (nl b) (nl out) (c : Int) (out.length : Int) true) (D (val 10 a + val 10 b)) := by
      intro hm
      refine radd_step a b ha hb c out (by omega) h4 ?_
      have h := ih ((c + gd a out.length + gd b out.length) / 10) (out ++ [(c + gd a out.length + gd b out.length) % 10]) (by simp only [List.length_append, List.length_cons, List.length_nil]; omega) (by simp only [List.length_append, List.length_cons, List.length_nil]; omega)
        (by
          simp only [List.length_append, List.length_cons, List.length_nil]
          intro h
          rw [gd_ge (l := a) (by omega), gd_ge (l := b) (by omega)]
          omega) (by omega) (ho.append (Dg.cons (Nat.mod_lt _ (by decide)) (Dg.nil _)))
      rw [val_snoc, List.length_append, List.length_cons, List.length_nil, Nat.zero_add] at h
      refine h ?_
      rw [val_take_succ, val_take_succ]
      have := Nat.mod_add_div (c + gd a out.length + gd b out.length) 10
      rw [Nat.pow_succ]
      grind
    refine Ev.step (fun k => by rw [numeraryref02_Add.l0]) ?_
    by_cases c1 : out.length < a.length
    · exact ev_pos (by rw [nl_length]; omega) (more (by omega))
    · refine ev_neg (by rw [nl_length]; omega) ?_
      by_cases c2 : out.length < b.length
      · exact ev_pos (by rw [nl_length]; omega) (more (by omega))
      · refine ev_neg (by rw [nl_length]; omega) ?_
        by_cases c3 : c = 0
        · subst c3
          have := fin 0 out (by omega) h2 rfl ho hv
          obtain ⟨K, hK⟩ := this
          refine ⟨K, fun k hk => ?_⟩
          have h5 : numeraryref02_Add.l0 (k + 1) (nl a) (nl b) (nl out) ((0 : Nat) : Int) (out.length : Int) = some _ := hK (k + 1) (by omega)
          rw [numeraryref02_Add.l0, if_neg (by rw [nl_length]; omega), if_neg (by rw [nl_length]; omega)] at h5
          exact h5
        · have hm : out.length ≤ max a.length b.length := by
            rcases Nat.lt_or_ge (max a.length b.length) out.length with h | h
            · exact absurd (h3 (by omega)) c3
            · exact h
          rw [show (decide ((c : Int) > 0)) = true by simp; omega]
          exact more hm
theorem radd_val {a b : List Nat} (ha : Dg 10 a) (hb : Dg 10 b) (hl : a.length ≤ 549755813888) (hl2 : b.length ≤ 549755813888) : Ev (fun k => numeraryref02_Add.f k (nl a) (nl b)) (D (val 10 a + val 10 b)) :=
  radd_loop a b ha hb hl hl2 (max a.length b.length + 1) 0 [] (by simp) (by simp) (by simp) (by omega) (Dg.nil _) (by simp [val])
theorem radd_D {m n : Nat} (hl : dn m ≤ 549755813888) (hl2 : dn n ≤ 549755813888) : Ev (fun k => numeraryref02_Add.f k (D m) (D n)) (D (m + n)) := by
  have := radd_val (Dg_dg b10 m) (Dg_dg b10 n) hl hl2
  rw [val_dg b10, val_dg b10] at this
  exact this

/-! which is greater -/
def cmpI (m n : Nat) : Int := if m < n then -1 else if n < m then 1 else 0
theorem rcmp_loop (m n : Nat) (hl : dn m = dn n) (hb : dn m ≤ 1099511627776) : ∀ i, i ≤ dn m → (dg 10 m).drop i = (dg 10 n).drop i → Ev (fun k => numeraryref02_Cmp.l0 k (D m) (D n) ((i : Int) - 1)) (cmpI m n) := by
  intro i
  induction i with
  | zero =>
    intro h1 h2
    rw [List.drop_zero, List.drop_zero] at h2
    have := dg_inj b10 h2
    subst this
    refine Ev.step (fun k => by rw [numeraryref02_Cmp.l0]) ?_
    exact ev_neg (by omega) (ev_now (by unfold cmpI; rw [if_neg (Nat.lt_irrefl _), if_neg (Nat.lt_irrefl _)]))
  | succ i ih =>
    intro h1 h2
    have e : (((i + 1 : Nat) : Int) - 1) = (i : Int) := by omega
    rw [e]
    refine Ev.step (fun k => by rw [numeraryref02_Cmp.l0]) ?_
    unfold dn at h1 hl hb
    refine ev_pos (by omega) (ev_pos (by omega) (ev_pos (by rw [D_length]; unfold dn; omega) (ev_pos (by rw [D_length]; unfold dn; omega) ?_)))
    unfold D
    by_cases c1 : gd (dg 10 m) i < gd (dg 10 n) i
    · refine ev_pos (by rw [rd_nl, rd_nl]; omega) (ev_now ?_)
      have := val_cmp (by decide) (Dg_dg b10 m) (Dg_dg b10 n) hl (by omega) h2 c1
      rw [val_dg b10, val_dg b10] at this
      unfold cmpI; rw [if_pos this]
    · refine ev_neg (by rw [rd_nl, rd_nl]; omega) ?_
      by_cases c2 : gd (dg 10 n) i < gd (dg 10 m) i
      · refine ev_pos (by rw [rd_nl, rd_nl]; omega) (ev_now ?_)
        have := val_cmp (by decide) (Dg_dg b10 n) (Dg_dg b10 m) hl.symm (by omega) h2.symm c2
        rw [val_dg b10, val_dg b10] at this
        unfold cmpI; rw [if_neg (by omega), if_pos this]
      · refine ev_neg (by rw [rd_nl, rd_nl]; omega) ?_
        have h3 := ih (by unfold dn; omega) (by rw [drop_cons _ i (by omega), drop_cons _ i (by omega), h2, show gd (dg 10 m) i = gd (dg 10 n) i by omega])
        rw [wrap_id (by omega) (by omega)]
        exact h3
theorem rcmp_D {m n : Nat} (hb : dn m ≤ 1099511627776) (hb2 : dn n ≤ 1099511627776) : Ev (fun k => numeraryref02_Cmp.f k (D m) (D n)) (cmpI m n) := by
  refine Ev.congr (fun k => by unfold numeraryref02_Cmp.f; rw [D_length, D_length]) ?_
  by_cases c1 : dn m = dn n
  · refine ev_pos (by omega) ?_
    have := rcmp_loop m n c1 hb (dn m) (Nat.le_refl _) (by rw [List.drop_of_length_le (by unfold dn; omega), List.drop_of_length_le (by rw [c1]; unfold dn; omega)])
    rw [wrap_id (by omega) (by omega)]
    exact this
  · refine ev_neg (by omega) ?_
    by_cases c2 : dn m < dn n
    · exact ev_pos (by omega) (ev_now (by have := len_cmp b10 c2; unfold cmpI; rw [if_pos this]))
    · exact ev_neg (by omega) (ev_now (by have := len_cmp b10 (m := n) (n := m) (by unfold dn at *; omega); unfold cmpI; rw [if_neg (by omega), if_pos this]))
end Go.Proofs.Ytcepdndhkidehaa.M

namespace Go.Proofs.Ytcepdndhkidehaa.PA
open Go.RowKit Go.Proofs.YtcepdndhkidehaaW.PrintWords Go.Proofs.YtcepdndhkidehaaW.PrintLast Go.Proofs.YtcepdndhkidehaaW.PrintMore
attribute [local go_sem] max2_int min2_int max_two min_two max_three min_three max_four min_four   -- for this text's walks alone
set_option linter.unusedVariables false
set_option linter.unusedSimpArgs false

/-! ### times_Mul: function 24 -/
mutual
def times_Mul.l0 : Nat → List Int → List Int → List Int → Int → Int → Option (List Int)
  | 0, _, _, _, _, _ => none
  | k + 1, x6, x7, x23, x24, x25 => if x25 < x24 then (if 0 ≤ x25 then (if x25 < (x23.length : Int) then (times_Mul.l1 k x6 x7 x25 (rd x23 x25) 0 x23 x24 x25 x6 (x6.length : Int) 0) else (none)) else (none)) else ((nat_Made.f k x7).bind fun t188 => (some t188))
def times_Mul.l1 : Nat → List Int → List Int → Int → Int → Int → List Int → Int → Int → List Int → Int → Int → Option (List Int)
  | 0, _, _, _, _, _, _, _, _, _, _, _ => none
  | k + 1, x6, x7, x8, x9, x10, x23, x24, x25, x30, x31, x32 => if x32 < x31 then (if 0 ≤ x32 then (if x32 < (x30.length : Int) then (if 0 ≤ (wrap64 (x8 + x32)) then (if (wrap64 (x8 + x32)) < (x7.length : Int) then (times_Mul.l1 k x6 (x7.set ((wrap64 (x8 + x32)) : Int).toNat ((IntKind.u64.wrap (x10 + (IntKind.u64.wrap ((IntKind.u64.wrap ((IntKind.u64.wrap (x9)) * (IntKind.u64.wrap (rd x30 x32)))) + (IntKind.u64.wrap (rd x7 (wrap64 (x8 + x32)))))))) % 4294967296)) x8 x9 ((IntKind.u64.wrap (x10 + (IntKind.u64.wrap ((IntKind.u64.wrap ((IntKind.u64.wrap (x9)) * (IntKind.u64.wrap (rd x30 x32)))) + (IntKind.u64.wrap (rd x7 (wrap64 (x8 + x32)))))))) / 4294967296) x23 x24 x25 x30 x31 (wrap64 (x32 + 1))) else (none)) else (none)) else (none)) else (none)) else (if 0 ≤ (wrap64 (x8 + (x6.length : Int))) then (if (wrap64 (x8 + (x6.length : Int))) < (x7.length : Int) then (times_Mul.l0 k x6 (x7.set ((wrap64 (x8 + (x6.length : Int))) : Int).toNat ((x10) % 4294967296)) x23 x24 (wrap64 (x25 + 1))) else (none)) else (none))
end
def times_Mul.f (k : Nat) (l0_0 : List Int) (l1_0 : List Int) : Option (List Int) := (nat_Nat_Limbs.f l0_0).bind fun t179 => ((nat_Nat_Limbs.f l1_0).bind fun t182 => (if 0 ≤ (wrap64 ((t179.length : Int) + (t182.length : Int))) then (if (wrap64 ((t179.length : Int) + (t182.length : Int)) : Int).toNat ≤ 70368744177664 then (times_Mul.l0 k t182 (List.replicate (wrap64 ((t179.length : Int) + (t182.length : Int)) : Int).toNat 0) t179 (t179.length : Int) 0) else (none)) else (none)))
theorem times_Mul.mono_l : ∀ k, (∀ y0 y1 y2 y3 y4, LeO (times_Mul.l0 k y0 y1 y2 y3 y4) (times_Mul.l0 (k + 1) y0 y1 y2 y3 y4)) ∧ (∀ y0 y1 y2 y3 y4 y5 y6 y7 y8 y9 y10, LeO (times_Mul.l1 k y0 y1 y2 y3 y4 y5 y6 y7 y8 y9 y10) (times_Mul.l1 (k + 1) y0 y1 y2 y3 y4 y5 y6 y7 y8 y9 y10))
  | 0 => ⟨fun _ _ _ _ _ r h => by simp [times_Mul.l0] at h, fun _ _ _ _ _ _ _ _ _ _ _ r h => by simp [times_Mul.l1] at h⟩
  | k + 1 => by
    obtain ⟨ih0, ih1⟩ := times_Mul.mono_l k
    refine ⟨?_, ?_⟩
    · intro y0 y1 y2 y3 y4
      unfold times_Mul.l0
      repeat' first
      | (with_reducible exact ih0 _ _ _ _ _)
      | (with_reducible exact ih1 _ _ _ _ _ _ _ _ _ _ _)
      | (with_reducible exact nat_Made.mono _ _)
      | (with_reducible exact LeO.refl _)
      | (with_reducible exact LeO.none _)
      | (with_reducible refine LeO.ite ?_ ?_)
      | (with_reducible refine LeO.bind ?_ (fun _ => ?_))
      | exact ih0 _ _ _ _ _
      | exact ih1 _ _ _ _ _ _ _ _ _ _ _
      | exact nat_Made.mono _ _
      | exact LeO.none _
      | refine LeO.ite ?_ ?_
      | refine LeO.bind ?_ (fun _ => ?_)
    · intro y0 y1 y2 y3 y4 y5 y6 y7 y8 y9 y10
      unfold times_Mul.l1
      repeat' first
      | (with_reducible exact ih0 _ _ _ _ _)
      | (with_reducible exact ih1 _ _ _ _ _ _ _ _ _ _ _)
      | (with_reducible exact nat_Made.mono _ _)
      | (with_reducible exact LeO.refl _)
      | (with_reducible exact LeO.none _)
      | (with_reducible refine LeO.ite ?_ ?_)
      | (with_reducible refine LeO.bind ?_ (fun _ => ?_))
      | exact ih0 _ _ _ _ _
      | exact ih1 _ _ _ _ _ _ _ _ _ _ _
      | exact nat_Made.mono _ _
      | exact LeO.none _
      | refine LeO.ite ?_ ?_
      | refine LeO.bind ?_ (fun _ => ?_)
theorem times_Mul.mono : ∀ a0 a1 k, LeO (times_Mul.f k a0 a1) (times_Mul.f (k + 1) a0 a1) := by
  intro a0 a1 k
  obtain ⟨ih0, ih1⟩ := times_Mul.mono_l k
  unfold times_Mul.f
  repeat' first
      | (with_reducible exact ih0 _ _ _ _ _)
      | (with_reducible exact ih1 _ _ _ _ _ _ _ _ _ _ _)
      | (with_reducible exact nat_Made.mono _ _)
      | (with_reducible exact LeO.refl _)
      | (with_reducible exact LeO.none _)
      | (with_reducible refine LeO.ite ?_ ?_)
      | (with_reducible refine LeO.bind ?_ (fun _ => ?_))
      | exact ih0 _ _ _ _ _
      | exact ih1 _ _ _ _ _ _ _ _ _ _ _
      | exact nat_Made.mono _ _
      | exact LeO.none _
      | refine LeO.ite ?_ ?_
      | refine LeO.bind ?_ (fun _ => ?_)
set_option maxHeartbeats 8000000 in
set_option maxRecDepth 100000 in
theorem times_Mul.calls (k : Nat) (A0_0 : Option Addr) (c0_0 : Nat) (l0_0 : List Int) (A1_0 : Option Addr) (c1_0 : Nat) (l1_0 : List Int) (r : List Int) (w : World) (hr0_0 : Kd.C (Kd.int .u32) w A0_0 l0_0.length l0_0) (hc0_0 : l0_0.length ≤ c0_0) (hr1_0 : Kd.C (Kd.int .u32) w A1_0 l1_0.length l1_0) (hc1_0 : l1_0.length ≤ c1_0) (h : times_Mul.f k l0_0 l1_0 = some r) :
    Calls Try.prog 24 #[.agg #[.slice A0_0 l0_0.length c0_0], .agg #[.slice A1_0 l1_0.length c1_0]] w fun e w' => ∃ v0_ : Value, e = .returned (.agg #[v0_]) ∧ Kd.R (Kd.int .u32) 23 w' w.heap.size (fun _ => True) v0_ r ∧ Below w.heap.size w w' := by
  have hu25 := Try.underlying25
  have HR0_0 := Aside0.mk hr0_0
  have HC0_0 := Aside0.mk hc0_0
  clear hr0_0 hc0_0
  have HR1_0 := Aside0.mk hr1_0
  have HC1_0 := Aside0.mk hc1_0
  clear hr1_0 hc1_0
  have HB := Aside0.mk (Below.refl w.heap.size w)
  have H : ((nat_Nat_Limbs.f l0_0).bind fun t179 => ((nat_Nat_Limbs.f l1_0).bind fun t182 => (if 0 ≤ (wrap64 ((t179.length : Int) + (t182.length : Int))) then (if (wrap64 ((t179.length : Int) + (t182.length : Int)) : Int).toNat ≤ 70368744177664 then (times_Mul.l0 k t182 (List.replicate (wrap64 ((t179.length : Int) + (t182.length : Int)) : Int).toNat 0) t179 (t179.length : Int) 0) else (none)) else (none)))) = some r := h
  clear h
  replace H := Option.bind_eq_some_iff.mp H
  obtain ⟨t179, A30, H⟩ := H
  replace H : ((nat_Nat_Limbs.f l1_0).bind fun t182 => (if 0 ≤ (wrap64 ((t179.length : Int) + (t182.length : Int))) then (if (wrap64 ((t179.length : Int) + (t182.length : Int)) : Int).toNat ≤ 70368744177664 then (times_Mul.l0 k t182 (List.replicate (wrap64 ((t179.length : Int) + (t182.length : Int)) : Int).toNat 0) t179 (t179.length : Int) 0) else (none)) else (none))) = some r := H
  have A3 := Aside0.mk A30
  clear A30
  replace H := Option.bind_eq_some_iff.mp H
  obtain ⟨t182, A40, H⟩ := H
  replace H : (if 0 ≤ (wrap64 ((t179.length : Int) + (t182.length : Int))) then (if (wrap64 ((t179.length : Int) + (t182.length : Int)) : Int).toNat ≤ 70368744177664 then (times_Mul.l0 k t182 (List.replicate (wrap64 ((t179.length : Int) + (t182.length : Int)) : Int).toNat 0) t179 (t179.length : Int) 0) else (none)) else (none)) = some r := H
  have A4 := Aside0.mk A40
  clear A40
  obtain ⟨ji5, hji5⟩ : ∃ j_ : Int, (wrap64 ((t179.length : Int) + (t182.length : Int))) = j_ := ⟨_, rfl⟩
  replace H : (if 0 ≤ (ji5) then (if (ji5 : Int).toNat ≤ 70368744177664 then (times_Mul.l0 k t182 (List.replicate (ji5 : Int).toNat 0) t179 (t179.length : Int) 0) else (none)) else (none)) = some r := by first | (rw [hji5] at H; exact H) | (simp only [hji5] at H ⊢; exact H)
  (try rw [hji5] at A3)
  (try rw [hji5] at A4)
  have hji5w : (IntKind.i64.wrap ((t179.length : Int) + (t182.length : Int))) = ji5 := (i64_w _).trans hji5
  by_cases c6 : 0 ≤ (ji5)
  · rw [if_pos c6] at H
    have c6b0 := eq_true c6
    have c6b1 : decide (0 ≤ (ji5)) = true := decide_eq_true c6
    clear c6
    by_cases c7 : (ji5 : Int).toNat ≤ 70368744177664
    · rw [if_pos c7] at H
      have c7b0 := eq_true c7
      have c7b1 : decide ((ji5 : Int).toNat ≤ 70368744177664) = true := decide_eq_true c7
      clear c7
      obtain ⟨y185, hy185⟩ : ∃ y_ : List Int, y_ = (List.replicate (ji5 : Int).toNat 0) := ⟨_, rfl⟩
      replace H : (times_Mul.l0 k t182 y185 t179 (t179.length : Int) 0) = some r := by first | (rw [hy185]; with_reducible exact H) | (have H2_ := (Option.bind_some _ _).symm.trans H; rw [hy185]; with_reducible exact H2_) | (have H2_ := (Option.bind_some _ _).symm.trans H; with_reducible exact H2_) | with_reducible exact H | (rw [hy185]; exact H) | exact H
      have Ny185 := Aside0.mk hy185
      clear hy185
      have H' := Aside0.mk H
      clear H
      go_enter Try.func24, Try.ntmps24
      try go_wp2_with (first | ((with_reducible refine gate_dst (N := 2) rfl ?_); refine box_event ?hg (N := 2) ?hd (cs := #[.slice A0_0 l0_0.length c0_0]) (t := 25) ?hr ?_; (case hd => rfl); (case hg => rfl); (case hr => first | (go_simp; done) | (go_simp; rfl)); intro gb176 hg w8 hbox hb; have n0_ := Aside0.mk (below_step (by repeat (first | (with_reducible first | exact HB.out | apply below_alloc | apply pw_below_drewN | apply below_drew1) | exact HB.out)) hb); have n1_ := Aside0.mk (hbox); have n2_ := Aside0.mk ((by rw [hg]; exact (below_size (by repeat (first | (with_reducible first | exact HB.out | apply below_alloc | apply pw_below_drewN | apply below_drew1) | exact HB.out))) : w.heap.size ≤ gb176)); have n3_ := Aside0.mk ((by rw [hg]; exact (below_size (by repeat (first | (with_reducible first | exact HB.out | apply below_alloc | apply pw_below_drewN | apply below_drew1) | exact HB.out))) : w.heap.size ≤ gb176)); clear HB; have HB := n0_; have BK176 := n1_; have GW176 := n2_; have GE176 := n3_; clear n0_ n1_ n2_ n3_; clear hb hbox hg) | ((with_reducible refine gate_dst (N := 3) rfl ?_); refine box_event ?hg (N := 3) ?hd (cs := #[.slice A1_0 l1_0.length c1_0]) (t := 25) ?hr ?_; (case hd => rfl); (case hg => rfl); (case hr => first | (go_simp; done) | (go_simp; rfl)); intro gb177 hg w9 hbox hb; have n0_ := Aside0.mk (blk_below (g := gb176) (o := .cells #[.slice A0_0 l0_0.length c0_0] 25 (0, 0)) (by (with_reducible repeat (first | refine blk_drewN ?_ _ | refine blk_drew ?_ | refine blk_alloc ?_ _)); exact BK176.out) hb); have n1_ := Aside0.mk (below_step (by repeat (first | (with_reducible first | exact HB.out | apply below_alloc | apply pw_below_drewN | apply below_drew1 | refine below_set ?_ GE176.out) | exact HB.out)) hb); have n2_ := Aside0.mk (hbox); have n3_ := Aside0.mk ((by rw [hg]; exact (below_size (by repeat (first | (with_reducible first | exact HB.out | apply below_alloc | apply pw_below_drewN | apply below_drew1 | refine below_set ?_ GE176.out) | exact HB.out))) : w.heap.size ≤ gb177)); have n4_ := Aside0.mk ((by rw [hg]; exact (below_size (by repeat (first | (with_reducible first | exact HB.out | apply below_alloc | apply pw_below_drewN | apply below_drew1 | refine below_set ?_ GE176.out) | exact HB.out))) : w.heap.size ≤ gb177)); have n5_ := Aside0.mk ((by rw [hg]; exact Nat.ne_of_lt (blk_lt (g := gb176) (o := .cells #[.slice A0_0 l0_0.length c0_0] 25 (0, 0)) (by (with_reducible repeat (first | refine blk_drewN ?_ _ | refine blk_drew ?_ | refine blk_alloc ?_ _)); exact BK176.out)) : gb176 ≠ gb177)); have n6_ := Aside0.mk ((by rw [hg]; exact Nat.ne_of_gt (blk_lt (g := gb176) (o := .cells #[.slice A0_0 l0_0.length c0_0] 25 (0, 0)) (by (with_reducible repeat (first | refine blk_drewN ?_ _ | refine blk_drew ?_ | refine blk_alloc ?_ _)); exact BK176.out)) : gb177 ≠ gb176)); clear BK176; clear HB; have BK176 := n0_; have HB := n1_; have BK177 := n2_; have GW177 := n3_; have GE177 := n4_; have NB176_177 := n5_; have NB177_176 := n6_; clear n0_ n1_ n2_ n3_ n4_ n5_ n6_; clear hb hbox hg) | ((with_reducible refine gate_dst (N := 4) rfl ?_); refine box_event ?hg (N := 4) ?hd (cs := #[.slice none 0 0]) (t := 25) ?hr ?_; (case hd => rfl); (case hg => rfl); (case hr => first | (go_simp; done) | (go_simp; rfl)); intro gb178 hg w10 hbox hb; have n0_ := Aside0.mk (blk_below (g := gb176) (o := .cells #[.slice A0_0 l0_0.length c0_0] 25 (0, 0)) (by (with_reducible repeat (first | refine blk_drewN ?_ _ | refine blk_drew ?_ | refine blk_alloc ?_ _)); exact BK176.out) hb); have n1_ := Aside0.mk (blk_below (g := gb177) (o := .cells #[.slice A1_0 l1_0.length c1_0] 25 (0, 0)) (by (with_reducible repeat (first | refine blk_drewN ?_ _ | refine blk_drew ?_ | refine blk_alloc ?_ _)); exact BK177.out) hb); have n2_ := Aside0.mk (below_step (by repeat (first | (with_reducible first | exact HB.out | apply below_alloc | apply pw_below_drewN | apply below_drew1 | refine below_set ?_ GE176.out | refine below_set ?_ GE177.out) | exact HB.out)) hb); have n3_ := Aside0.mk (hbox); have n4_ := Aside0.mk ((by rw [hg]; exact (below_size (by repeat (first | (with_reducible first | exact HB.out | apply below_alloc | apply pw_below_drewN | apply below_drew1 | refine below_set ?_ GE176.out | refine below_set ?_ GE177.out) | exact HB.out))) : w.heap.size ≤ gb178)); have n5_ := Aside0.mk ((by rw [hg]; exact (below_size (by repeat (first | (with_reducible first | exact HB.out | apply below_alloc | apply pw_below_drewN | apply below_drew1 | refine below_set ?_ GE176.out | refine below_set ?_ GE177.out) | exact HB.out))) : w.heap.size ≤ gb178)); have n6_ := Aside0.mk ((by rw [hg]; exact Nat.ne_of_lt (blk_lt (g := gb176) (o := .cells #[.slice A0_0 l0_0.length c0_0] 25 (0, 0)) (by (with_reducible repeat (first | refine blk_drewN ?_ _ | refine blk_drew ?_ | refine blk_alloc ?_ _)); exact BK176.out)) : gb176 ≠ gb178)); have n7_ := Aside0.mk ((by rw [hg]; exact Nat.ne_of_gt (blk_lt (g := gb176) (o := .cells #[.slice A0_0 l0_0.length c0_0] 25 (0, 0)) (by (with_reducible repeat (first | refine blk_drewN ?_ _ | refine blk_drew ?_ | refine blk_alloc ?_ _)); exact BK176.out)) : gb178 ≠ gb176)); have n8_ := Aside0.mk ((by rw [hg]; exact Nat.ne_of_lt (blk_lt (g := gb177) (o := .cells #[.slice A1_0 l1_0.length c1_0] 25 (0, 0)) (by (with_reducible repeat (first | refine blk_drewN ?_ _ | refine blk_drew ?_ | refine blk_alloc ?_ _)); exact BK177.out)) : gb177 ≠ gb178)); have n9_ := Aside0.mk ((by rw [hg]; exact Nat.ne_of_gt (blk_lt (g := gb177) (o := .cells #[.slice A1_0 l1_0.length c1_0] 25 (0, 0)) (by (with_reducible repeat (first | refine blk_drewN ?_ _ | refine blk_drew ?_ | refine blk_alloc ?_ _)); exact BK177.out)) : gb178 ≠ gb177)); clear BK176; clear BK177; clear HB; have BK176 := n0_; have BK177 := n1_; have HB := n2_; have BK178 := n3_; have GW178 := n4_; have GE178 := n5_; have NB176_178 := n6_; have NB178_176 := n7_; have NB177_178 := n8_; have NB178_177 := n9_; clear n0_ n1_ n2_ n3_ n4_ n5_ n6_ n7_ n8_ n9_; clear hb hbox hg))
      have n0_ := Aside0.mk (blk_drew BK176.out)
      have n1_ := Aside0.mk (blk_drew BK177.out)
      have n2_ := Aside0.mk (blk_drew BK178.out)
      have n3_ := Aside0.mk (below_drew1 HB.out)
      clear BK176
      clear BK177
      clear BK178
      clear HB
      have BK176 := n0_
      have BK177 := n1_
      have BK178 := n2_
      have HB := n3_
      clear n0_ n1_ n2_ n3_
      refine start_ (n := 6) (S := fun w' => w'.cell? ⟨gb176, 0, none⟩ = some (.slice A0_0 l0_0.length c0_0) ∧ w'.cell? ⟨gb177, 0, none⟩ = some (.slice A1_0 l1_0.length c1_0)) (ds := []) #[false, false, false, false, false, false] (by kernel_rfl) rfl rfl ⟨(blk_cell BK176.out 0).trans rfl, (blk_cell BK177.out 0).trans rfl⟩ (fun hHeld => ?_)
      generalize w10.drew = w11 at BK176 BK177 BK178 HB hHeld ⊢
      refine take_ (i := 0) (N := some 13) (v := ?_) (a' := ?_) #[true, false, false, false, false, false] rfl rfl (by kernel_rfl) (fun _ _ _ h => h) (Or.inl ⟨by rfl, ?_⟩) hHeld ?_ ?_
      rotate_left
      · rintro w' ⟨s0, s1⟩
        go_simp
        with_reducible rfl
      rotate_left
      · simp only [Act.put, List.setIfInBounds_toArray, List.set_cons_zero, List.set_cons_succ, i64_w, i32_w]
        rfl
      refine take_ (i := 2) (N := some 15) (v := ?_) (a' := ?_) #[true, false, true, false, false, false] rfl rfl (by kernel_rfl) (fun _ _ _ h => h) (Or.inl ⟨by rfl, ?_⟩) hHeld ?_ ?_
      rotate_left
      · rintro w' ⟨s0, s1⟩
        go_simp
        with_reducible rfl
      rotate_left
      · simp only [Act.put, List.setIfInBounds_toArray, List.set_cons_zero, List.set_cons_succ, i64_w, i32_w]
        rfl
      refine one_ (i := 1) (N := some 14) #[true, true, true, false, false, false] rfl rfl (by kernel_rfl) (by decide) (fun K hK => ?_)
      refine goes_ Try.func31 (by kernel_rfl) rfl #[.agg #[.slice A0_0 l0_0.length c0_0]] (by rfl) rfl rfl (by (try simp only [List.map_toArray, List.map_cons, List.map_nil]); first | done | rfl | (simp only [List.length_drop, List.length_take]; rfl)) ?_
      with_reducible refine (nat_Nat_Limbs.calls _ _ l0_0 t179 _ ?side1 ?side2 A3.out).mono ?_
      (case side1 => repeat (first | exact (Kd.C_below HR0_0.out HB.out) | (with_reducible refine Kd.C_alloc ?_ _) | (with_reducible refine Kd.C_drewN ?_ _) | (with_reducible refine Kd.C_drew ?_)))
      (case side2 => exact HC0_0.out)
      rintro e w12 ⟨v180, rfl, ho0, hb⟩
      refine ⟨_, rfl, ?_⟩
      have n0_ := Aside0.mk (Kd.R_lower ho0 (below_size (by repeat (first | (with_reducible first | exact HB.out | apply below_alloc | apply pw_below_drewN | apply below_drew1 | refine below_set ?_ GE176.out | refine below_set ?_ GE177.out | refine below_set ?_ GE178.out) | exact HB.out))))
      have n1_ := Aside0.mk (blk_below (g := gb176) (o := .cells #[.slice A0_0 l0_0.length c0_0] 25 (0, 0)) (by (with_reducible repeat (first | refine blk_drewN ?_ _ | refine blk_drew ?_ | refine blk_alloc ?_ _)); exact BK176.out) hb)
      have n2_ := Aside0.mk (blk_below (g := gb177) (o := .cells #[.slice A1_0 l1_0.length c1_0] 25 (0, 0)) (by (with_reducible repeat (first | refine blk_drewN ?_ _ | refine blk_drew ?_ | refine blk_alloc ?_ _)); exact BK177.out) hb)
      have n3_ := Aside0.mk (blk_below (g := gb178) (o := .cells #[.slice none 0 0] 25 (0, 0)) (by (with_reducible repeat (first | refine blk_drewN ?_ _ | refine blk_drew ?_ | refine blk_alloc ?_ _)); exact BK178.out) hb)
      have n4_ := Aside0.mk (below_step (by repeat (first | (with_reducible first | exact HB.out | apply below_alloc | apply pw_below_drewN | apply below_drew1 | refine below_set ?_ GE176.out | refine below_set ?_ GE177.out | refine below_set ?_ GE178.out) | exact HB.out)) hb)
      clear BK176
      clear BK177
      clear BK178
      clear HB
      have HO181 := n0_
      have BK176 := n1_
      have BK177 := n2_
      have BK178 := n3_
      have HB := n4_
      clear n0_ n1_ n2_ n3_ n4_
      (try clear hb)
      (try clear hb2)
      (try clear hk)
      (try clear hi)
      (try clear ho0)
      refine hK.out _ _ ⟨(blk_cell BK176.out 0).trans rfl, (blk_cell BK177.out 0).trans rfl⟩ (fun hHeld => ?_)
      clear hK K
      refine norm_ (a' := ?_) ?_ ?_
      rotate_left
      · show Act.put _ (some 14) _ = _
        simp only [Act.put, List.setIfInBounds_toArray, List.set_cons_zero, List.set_cons_succ, i64_w, i32_w]
        rfl
      refine one_ (i := 3) (N := some 16) #[true, true, true, true, false, false] rfl rfl (by kernel_rfl) (by decide) (fun K hK => ?_)
      refine goes_ Try.func31 (by kernel_rfl) rfl #[.agg #[.slice A1_0 l1_0.length c1_0]] (by rfl) rfl rfl (by (try simp only [List.map_toArray, List.map_cons, List.map_nil]); first | done | rfl | (simp only [List.length_drop, List.length_take]; rfl)) ?_
      with_reducible refine (nat_Nat_Limbs.calls _ _ l1_0 t182 _ ?side1 ?side2 A4.out).mono ?_
      (case side1 => repeat (first | exact (Kd.C_below HR1_0.out HB.out) | (with_reducible refine Kd.C_alloc ?_ _) | (with_reducible refine Kd.C_drewN ?_ _) | (with_reducible refine Kd.C_drew ?_)))
      (case side2 => exact HC1_0.out)
      rintro e w13 ⟨v183, rfl, ho0, hb⟩
      refine ⟨_, rfl, ?_⟩
      have n0_ := Aside0.mk (Kd.R_elder' (by (with_reducible repeat (first | apply Kd.R_alloc | apply Kd.R_drewN | apply Kd.R_drew)); exact HO181.out) (Kd.R_base ho0) hb)
      have n1_ := Aside0.mk (Kd.R_lower (Kd.R_new' ho0 (Kd.R_lt (by (with_reducible repeat (first | apply Kd.R_alloc | apply Kd.R_drewN | apply Kd.R_drew)); exact HO181.out))) (below_size (by repeat (first | (with_reducible first | exact HB.out | apply below_alloc | apply pw_below_drewN | apply below_drew1 | refine below_set ?_ GE176.out | refine below_set ?_ GE177.out | refine below_set ?_ GE178.out) | exact HB.out))))
      have n2_ := Aside0.mk (blk_below (g := gb176) (o := .cells #[.slice A0_0 l0_0.length c0_0] 25 (0, 0)) (by (with_reducible repeat (first | refine blk_drewN ?_ _ | refine blk_drew ?_ | refine blk_alloc ?_ _)); exact BK176.out) hb)
      have n3_ := Aside0.mk (blk_below (g := gb177) (o := .cells #[.slice A1_0 l1_0.length c1_0] 25 (0, 0)) (by (with_reducible repeat (first | refine blk_drewN ?_ _ | refine blk_drew ?_ | refine blk_alloc ?_ _)); exact BK177.out) hb)
      have n4_ := Aside0.mk (blk_below (g := gb178) (o := .cells #[.slice none 0 0] 25 (0, 0)) (by (with_reducible repeat (first | refine blk_drewN ?_ _ | refine blk_drew ?_ | refine blk_alloc ?_ _)); exact BK178.out) hb)
      have n5_ := Aside0.mk (below_step (by repeat (first | (with_reducible first | exact HB.out | apply below_alloc | apply pw_below_drewN | apply below_drew1 | refine below_set ?_ GE176.out | refine below_set ?_ GE177.out | refine below_set ?_ GE178.out) | exact HB.out)) hb)
      clear HO181
      clear BK176
      clear BK177
      clear BK178
      clear HB
      have HO181 := n0_
      have HO184 := n1_
      have BK176 := n2_
      have BK177 := n3_
      have BK178 := n4_
      have HB := n5_
      clear n0_ n1_ n2_ n3_ n4_ n5_
      (try clear hb)
      (try clear hb2)
      (try clear hk)
      (try clear hi)
      (try clear ho0)
      refine hK.out _ _ ⟨(blk_cell BK176.out 0).trans rfl, (blk_cell BK177.out 0).trans rfl⟩ (fun hHeld => ?_)
      clear hK K
      refine norm_ (a' := ?_) ?_ ?_
      rotate_left
      · show Act.put _ (some 16) _ = _
        simp only [Act.put, List.setIfInBounds_toArray, List.set_cons_zero, List.set_cons_succ, i64_w, i32_w]
        rfl
      refine pure_ (i := 4) (N := some 5) (v := ?_) (a' := ?_) #[true, true, true, true, true, false] rfl rfl (by kernel_rfl) (fun _ _ _ h => h) (Or.inl ⟨by rfl, ?_⟩) ?_ ?_
      rotate_left
      · intro w'
        go_simp
        with_reducible rfl
      rotate_left
      · simp only [Act.put, List.setIfInBounds_toArray, List.set_cons_zero, List.set_cons_succ, i64_w, i32_w]
        rfl
      refine pure_ (i := 5) (N := some 6) (v := ?_) (a' := ?_) #[true, true, true, true, true, true] rfl rfl (by kernel_rfl) (fun _ _ _ h => h) (Or.inl ⟨by rfl, ?_⟩) ?_ ?_
      rotate_left
      · intro w'
        go_simp
        with_reducible rfl
      rotate_left
      · simp only [Act.put, List.setIfInBounds_toArray, List.set_cons_zero, List.set_cons_succ, i64_w, i32_w]
        rfl
      refine done_ (by kernel_rfl) ?_
      obtain ⟨Ao14, co14, eo14⟩ := Kd.R_slice HO181.out
      subst eo14
      obtain ⟨Ao15, co15, eo15⟩ := Kd.R_slice HO184.out
      subst eo15
      try go_wp2_with (first | ((with_reducible refine gate_dst (N := 22) rfl ?_); refine Kd.R_make (Kd.int .u32) _ 23 rfl (N := 22) rfl 22 _ _ rfl ji5 rfl rfl Try.underlying22 (.int .u32 0) 4 info23 rfl (by decide) (by omega) 0 (ok := fun _ => True) (okp := fun _ => True) rfl (fun _ hk => hk) trivial (of_decide_eq_true (by first | (with_reducible assumption) | assumption)) (Nat.le_trans (Nat.mul_le_mul_right _ (of_decide_eq_true (by first | (with_reducible assumption) | assumption) : ji5.toNat ≤ 70368744177664)) (by omega)) (Below.refl _ _) (Nat.le_refl _) ?_; intro v186 w16 ho17 hb hg_ hnew_; clear hg_ hnew_; (first | rw [← Ny185.out] at ho17 | (simp only [Int.reduceToNat] at ho17; rw [← Ny185.out] at ho17)); have n0_ := Aside0.mk (Kd.R_elder' (by (with_reducible repeat (first | apply Kd.R_alloc | apply Kd.R_drewN | apply Kd.R_drew)); exact HO181.out) (Kd.R_base ho17) hb); have n1_ := Aside0.mk (Kd.R_elder' (by (with_reducible repeat (first | apply Kd.R_alloc | apply Kd.R_drewN | apply Kd.R_drew)); exact HO184.out) (Kd.R_base ho17) hb); have n2_ := Aside0.mk (Kd.R_lower (Kd.R_new' (Kd.R_new' ho17 (Kd.R_lt (by (with_reducible repeat (first | apply Kd.R_alloc | apply Kd.R_drewN | apply Kd.R_drew)); exact HO181.out))) (Kd.R_lt (by (with_reducible repeat (first | apply Kd.R_alloc | apply Kd.R_drewN | apply Kd.R_drew)); exact HO184.out))) (below_size (by repeat (first | (with_reducible first | exact HB.out | apply below_alloc | apply pw_below_drewN | apply below_drew1 | refine below_set ?_ GE176.out | refine below_set ?_ GE177.out | refine below_set ?_ GE178.out) | exact HB.out)))); have n3_ := Aside0.mk (blk_below (g := gb176) (o := .cells #[.slice A0_0 l0_0.length c0_0] 25 (0, 0)) (by (with_reducible repeat (first | refine blk_drewN ?_ _ | refine blk_drew ?_ | refine blk_alloc ?_ _)); exact BK176.out) hb); have n4_ := Aside0.mk (blk_below (g := gb177) (o := .cells #[.slice A1_0 l1_0.length c1_0] 25 (0, 0)) (by (with_reducible repeat (first | refine blk_drewN ?_ _ | refine blk_drew ?_ | refine blk_alloc ?_ _)); exact BK177.out) hb); have n5_ := Aside0.mk (blk_below (g := gb178) (o := .cells #[.slice none 0 0] 25 (0, 0)) (by (with_reducible repeat (first | refine blk_drewN ?_ _ | refine blk_drew ?_ | refine blk_alloc ?_ _)); exact BK178.out) hb); have n6_ := Aside0.mk (below_step (by repeat (first | (with_reducible first | exact HB.out | apply below_alloc | apply pw_below_drewN | apply below_drew1 | refine below_set ?_ GE176.out | refine below_set ?_ GE177.out | refine below_set ?_ GE178.out) | exact HB.out)) hb); clear HO181; clear HO184; clear BK176; clear BK177; clear BK178; clear HB; have HO181 := n0_; have HO184 := n1_; have HO187 := n2_; have BK176 := n3_; have BK177 := n4_; have BK178 := n5_; have HB := n6_; clear n0_ n1_ n2_ n3_ n4_ n5_ n6_; clear hb ho17))
      (try simp only [Act.put, List.setIfInBounds_toArray, List.set_cons_zero, List.set_cons_succ])
      go_loopg [25] k (fun kq v25 w' => ∃ (x7_1 : List Int) (x25_1 : Int), v25 = .int .i64 x25_1 ∧ Aside0 (times_Mul.l0 kq t182 x7_1 t179 (t179.length : Int) x25_1 = some r) ∧ Aside0 (kq ≤ k) ∧ Aside0 (Kd.R (Kd.int .u32) 23 w' w.heap.size (fun k_ => some k_ ≠ (v186 : Value).ownBlock ∧ some k_ ≠ ((.slice Ao14 t179.length co14) : Value).ownBlock) (.slice Ao15 t182.length co15) t182) ∧ Aside0 (Kd.R (Kd.int .u32) 23 w' w.heap.size (fun k_ => some k_ ≠ ((.slice Ao15 t182.length co15) : Value).ownBlock ∧ some k_ ≠ ((.slice Ao14 t179.length co14) : Value).ownBlock) v186 x7_1) ∧ Aside0 (Kd.R (Kd.int .u32) 23 w' w.heap.size (fun k_ => some k_ ≠ ((.slice Ao15 t182.length co15) : Value).ownBlock ∧ some k_ ≠ (v186 : Value).ownBlock) (.slice Ao14 t179.length co14) t179) ∧ Aside0 (w'.heap[gb176]? = some (.cells #[(.slice A0_0 l0_0.length c0_0)] 25 (0, 0))) ∧ Aside0 (w'.heap[gb177]? = some (.cells #[(.slice A1_0 l1_0.length c1_0)] 25 (0, 0))) ∧ Aside0 (w'.heap[gb178]? = some (.cells #[(.slice none 0 0)] 25 (0, 0))) ∧ Aside0 (Below w.heap.size w w'))
      case atStart => exact ⟨(y185), (0), (by first | rfl | (simp; done) | (simp [*]; done)), H', ⟨Nat.le_refl _⟩, ⟨by (with_reducible repeat (first | apply Kd.R_alloc | apply Kd.R_drewN | apply Kd.R_drew)); exact Kd.R_mono HO184.out (fun _ hk => ⟨hk.2, hk.1.2⟩)⟩, ⟨by (with_reducible repeat (first | apply Kd.R_alloc | apply Kd.R_drewN | apply Kd.R_drew)); exact Kd.R_mono HO187.out (fun _ hk => ⟨hk.2, hk.1.2⟩)⟩, ⟨by (with_reducible repeat (first | apply Kd.R_alloc | apply Kd.R_drewN | apply Kd.R_drew)); exact Kd.R_mono HO181.out (fun _ hk => ⟨hk.1.2, hk.2⟩)⟩, ⟨by (with_reducible repeat (first | refine blk_drewN ?_ _ | refine blk_drew ?_ | refine blk_alloc ?_ _)); exact BK176.out⟩, ⟨by (with_reducible repeat (first | refine blk_drewN ?_ _ | refine blk_drew ?_ | refine blk_alloc ?_ _)); exact BK177.out⟩, ⟨by (with_reducible repeat (first | refine blk_drewN ?_ _ | refine blk_drew ?_ | refine blk_alloc ?_ _)); exact BK178.out⟩, ⟨by repeat (first | (with_reducible first | exact HB.out | apply below_alloc | apply pw_below_drewN | apply below_drew1 | refine below_set ?_ GE176.out | refine below_set ?_ GE177.out | refine below_set ?_ GE178.out) | exact HB.out)⟩⟩
      case round =>
        clear H'
        try clear c1
        try clear c2
        try clear p2
        try clear c3
        try clear c6
        try clear c6b0
        try clear c6b1
        try clear p6
        try clear c7
        try clear c7b0
        try clear c7b1
        obtain ⟨x7_1, x25_1, rfl, HA, HK1, HO_6, HO_7, HO_23, BK176, BK177, BK178, HB⟩ := hrel
        cases gk with
        | zero => exact absurd HA.out (by simp [times_Mul.l0])
        | succ k1 =>
          have H := HA.out
          clear HA
          simp only [times_Mul.l0] at H
          by_cases c18 : x25_1 < (t179.length : Int)
          · rw [if_pos c18] at H
            have c18b0 : decide (x25_1 < (t179.length : Int)) = true := decide_eq_true c18
            clear c18
            by_cases c19 : 0 ≤ x25_1
            · rw [if_pos c19] at H
              have c19b0 : decide (0 ≤ x25_1) = true := decide_eq_true c19
              clear c19
              by_cases c20 : x25_1 < (t179.length : Int)
              · rw [if_pos c20] at H
                have c20b0 : decide (x25_1 < (t179.length : Int)) = true := decide_eq_true c20
                clear c20
                have H' := Aside0.mk H
                clear H
                have p191 : 0 ≤ (x25_1 : Int) := of_decide_eq_true (by first | (with_reducible assumption) | assumption)
                have q191 : x25_1 < (t179.length : Int) := of_decide_eq_true (by first | (with_reducible assumption) | assumption)
                obtain ⟨ad191, e191, hx191_0⟩ := Kd.at_int (Kd.R_reads' HO_23.out).2.2 x25_1 p191 q191
                cases e191
                replace p191 := eq_true p191
                replace q191 := eq_true q191
                go_wp2
                (try simp only [Act.put, List.setIfInBounds_toArray, List.set_cons_zero, List.set_cons_succ])
                go_loopg [10, 32] k1 (fun kq v10 v32 w' => ∃ (x7_2 : List Int) (x10_2 : Int) (x32_2 : Int), v10 = .int .u64 x10_2 ∧ v32 = .int .i64 x32_2 ∧ Aside0 (times_Mul.l1 kq t182 x7_2 x25_1 (rd t179 x25_1) x10_2 t179 (t179.length : Int) x25_1 t182 (t182.length : Int) x32_2 = some r) ∧ Aside0 (kq ≤ k1) ∧ Aside0 (Kd.R (Kd.int .u32) 23 w' w.heap.size (fun k_ => some k_ ≠ (v186 : Value).ownBlock ∧ some k_ ≠ ((.slice (some ad191) t179.length co14) : Value).ownBlock) (.slice Ao15 t182.length co15) t182) ∧ Aside0 (Kd.R (Kd.int .u32) 23 w' w.heap.size (fun k_ => some k_ ≠ ((.slice Ao15 t182.length co15) : Value).ownBlock ∧ some k_ ≠ ((.slice (some ad191) t179.length co14) : Value).ownBlock ∧ some k_ ≠ ((.slice Ao15 t182.length co15) : Value).ownBlock) v186 x7_2) ∧ Aside0 (Kd.R (Kd.int .u32) 23 w' w.heap.size (fun k_ => some k_ ≠ ((.slice Ao15 t182.length co15) : Value).ownBlock ∧ some k_ ≠ (v186 : Value).ownBlock ∧ some k_ ≠ ((.slice Ao15 t182.length co15) : Value).ownBlock) (.slice (some ad191) t179.length co14) t179) ∧ Aside0 (Kd.R (Kd.int .u32) 23 w' w.heap.size (fun k_ => some k_ ≠ (v186 : Value).ownBlock ∧ some k_ ≠ ((.slice (some ad191) t179.length co14) : Value).ownBlock) (.slice Ao15 t182.length co15) t182) ∧ Aside0 (w'.heap[gb176]? = some (.cells #[(.slice A0_0 l0_0.length c0_0)] 25 (0, 0))) ∧ Aside0 (w'.heap[gb177]? = some (.cells #[(.slice A1_0 l1_0.length c1_0)] 25 (0, 0))) ∧ Aside0 (w'.heap[gb178]? = some (.cells #[(.slice none 0 0)] 25 (0, 0))) ∧ Aside0 (Below w.heap.size w w'))
                case atStart => exact ⟨(x7_1), (0), (0), (by first | rfl | (simp; done) | (simp [*]; done)), (by first | rfl | (simp; done) | (simp [*]; done)), H', ⟨Nat.le_refl _⟩, ⟨by (with_reducible repeat (first | apply Kd.R_alloc | apply Kd.R_drewN | apply Kd.R_drew)); exact HO_6.out⟩, ⟨by (with_reducible repeat (first | apply Kd.R_alloc | apply Kd.R_drewN | apply Kd.R_drew)); exact Kd.R_mono HO_7.out (fun _ hk => ⟨hk.1, ⟨hk.2, hk.1⟩⟩)⟩, ⟨by (with_reducible repeat (first | apply Kd.R_alloc | apply Kd.R_drewN | apply Kd.R_drew)); exact Kd.R_mono HO_23.out (fun _ hk => ⟨hk.1, ⟨hk.2, hk.1⟩⟩)⟩, ⟨by (with_reducible repeat (first | apply Kd.R_alloc | apply Kd.R_drewN | apply Kd.R_drew)); exact HO_6.out⟩, ⟨by (with_reducible repeat (first | refine blk_drewN ?_ _ | refine blk_drew ?_ | refine blk_alloc ?_ _)); exact BK176.out⟩, ⟨by (with_reducible repeat (first | refine blk_drewN ?_ _ | refine blk_drew ?_ | refine blk_alloc ?_ _)); exact BK177.out⟩, ⟨by (with_reducible repeat (first | refine blk_drewN ?_ _ | refine blk_drew ?_ | refine blk_alloc ?_ _)); exact BK178.out⟩, ⟨by repeat (first | (with_reducible first | exact HB.out | apply below_alloc | apply pw_below_drewN | apply below_drew1 | refine below_set ?_ GE176.out | refine below_set ?_ GE177.out | refine below_set ?_ GE178.out) | exact HB.out)⟩⟩
                case round =>
                  clear H'
                  try clear c1
                  try clear p1
                  try clear q1
                  try clear hx1
                  try clear c2
                  try clear p2
                  try clear c3
                  try clear c6
                  try clear c6b0
                  try clear c6b1
                  try clear p6
                  try clear c7
                  try clear c7b0
                  try clear c7b1
                  try clear c18
                  try clear c18b0
                  try clear c19
                  try clear c19b0
                  try clear p19
                  try clear q19
                  try clear hx19
                  try clear c20
                  try clear c20b0
                  try clear hx191_0
                  try clear p191
                  try clear p2
                  try clear p6
                  try clear q191
                  obtain ⟨x7_2, x10_2, x32_2, rfl, rfl, HA, HK2, HO_6, HO_7, HO_23, HO_30, BK176, BK177, BK178, HB⟩ := hrel
                  cases gk with
                  | zero => exact absurd HA.out (by simp [times_Mul.l1])
                  | succ k2 =>
                    have H := HA.out
                    clear HA
                    simp only [times_Mul.l1] at H
                    by_cases c21 : x32_2 < (t182.length : Int)
                    · rw [if_pos c21] at H
                      have c21b0 : decide (x32_2 < (t182.length : Int)) = true := decide_eq_true c21
                      clear c21
                      by_cases c22 : 0 ≤ x32_2
                      · rw [if_pos c22] at H
                        have c22b0 : decide (0 ≤ x32_2) = true := decide_eq_true c22
                        clear c22
                        by_cases c23 : x32_2 < (t182.length : Int)
                        · rw [if_pos c23] at H
                          have c23b0 : decide (x32_2 < (t182.length : Int)) = true := decide_eq_true c23
                          clear c23
                          obtain ⟨ji24, hji24⟩ : ∃ j_ : Int, (wrap64 (x25_1 + x32_2)) = j_ := ⟨_, rfl⟩
                          replace H : (if 0 ≤ (ji24) then (if (ji24) < (x7_2.length : Int) then (times_Mul.l1 k2 t182 (x7_2.set ((ji24) : Int).toNat ((IntKind.u64.wrap (x10_2 + (IntKind.u64.wrap ((IntKind.u64.wrap ((IntKind.u64.wrap ((rd t179 x25_1))) * (IntKind.u64.wrap (rd t182 x32_2)))) + (IntKind.u64.wrap (rd x7_2 (ji24))))))) % 4294967296)) x25_1 (rd t179 x25_1) ((IntKind.u64.wrap (x10_2 + (IntKind.u64.wrap ((IntKind.u64.wrap ((IntKind.u64.wrap ((rd t179 x25_1))) * (IntKind.u64.wrap (rd t182 x32_2)))) + (IntKind.u64.wrap (rd x7_2 (ji24))))))) / 4294967296) t179 (t179.length : Int) x25_1 t182 (t182.length : Int) (wrap64 (x32_2 + 1))) else (none)) else (none)) = some r := by first | (rw [hji24] at H; exact H) | (simp only [hji24] at H ⊢; exact H)
                          have hji24w : (IntKind.i64.wrap (x25_1 + x32_2)) = ji24 := (i64_w _).trans hji24
                          by_cases c25 : 0 ≤ (ji24)
                          · rw [if_pos c25] at H
                            have c25b0 : decide (0 ≤ (ji24)) = true := decide_eq_true c25
                            clear c25
                            by_cases c26 : (ji24) < (x7_2.length : Int)
                            · rw [if_pos c26] at H
                              have c26b0 : decide ((ji24) < (x7_2.length : Int)) = true := decide_eq_true c26
                              clear c26
                              obtain ⟨y194, hy194⟩ : ∃ y_ : List Int, y_ = (x7_2.set ((ji24) : Int).toNat ((IntKind.u64.wrap (x10_2 + (IntKind.u64.wrap ((IntKind.u64.wrap ((IntKind.u64.wrap ((rd t179 x25_1))) * (IntKind.u64.wrap (rd t182 x32_2)))) + (IntKind.u64.wrap (rd x7_2 (ji24))))))) % 4294967296)) := ⟨_, rfl⟩
                              replace H : (times_Mul.l1 k2 t182 y194 x25_1 (rd t179 x25_1) ((IntKind.u64.wrap (x10_2 + (IntKind.u64.wrap ((IntKind.u64.wrap ((IntKind.u64.wrap ((rd t179 x25_1))) * (IntKind.u64.wrap (rd t182 x32_2)))) + (IntKind.u64.wrap (rd x7_2 (ji24))))))) / 4294967296) t179 (t179.length : Int) x25_1 t182 (t182.length : Int) (wrap64 (x32_2 + 1))) = some r := by first | (rw [hy194]; with_reducible exact H) | (have H2_ := (Option.bind_some _ _).symm.trans H; rw [hy194]; with_reducible exact H2_) | (have H2_ := (Option.bind_some _ _).symm.trans H; with_reducible exact H2_) | with_reducible exact H | (rw [hy194]; exact H) | exact H
                              have Ny194 := Aside0.mk hy194
                              clear hy194
                              have H' := Aside0.mk H
                              clear H
                              have p192 : 0 ≤ (x32_2 : Int) := of_decide_eq_true (by first | (with_reducible assumption) | assumption)
                              have q192 : x32_2 < (t182.length : Int) := of_decide_eq_true (by first | (with_reducible assumption) | assumption)
                              obtain ⟨ad192, e192, hx192_0⟩ := Kd.at_int (Kd.R_reads' HO_30.out).2.2 x32_2 p192 q192
                              cases e192
                              replace p192 := eq_true p192
                              replace q192 := eq_true q192
                              obtain ⟨Ao28, co28, eo28⟩ := Kd.R_slice HO_7.out
                              subst eo28
                              have p193 : 0 ≤ ((ji24) : Int) := of_decide_eq_true (by first | (with_reducible assumption) | assumption)
                              have q193 : (ji24) < (x7_2.length : Int) := of_decide_eq_true (by first | (with_reducible assumption) | assumption)
                              obtain ⟨ad193, e193, hx193_0⟩ := Kd.at_int (Kd.R_reads' HO_7.out).2.2 (ji24) p193 q193
                              cases e193
                              replace p193 := eq_true p193
                              replace q193 := eq_true q193
                              have p27 : 0 ≤ ((ji24) : Int) := of_decide_eq_true (by first | (with_reducible assumption) | assumption)
                              have q27 : ((ji24) : Int) < ((x7_2.length : Int) : Int) := of_decide_eq_true (by first | (with_reducible assumption) | assumption)
                              obtain ⟨go27, co27, eo27, gb27, gl27, cl27, HG27⟩ := Kd.R_form HO_7.out (by omega)
                              (first | cases eo27 | (injection eo27 with ea_ en_ ec_; (first | subst ea_ | (injection ea_ with ea_; subst ea_)); subst ec_; clear en_))
                              have GB27 := Aside0.mk gb27
                              have GG27 := Aside0.mk HG27
                              clear gb27 gl27 HG27
                              (first | simp only [add_plain] at hx193_0 | skip)
                              obtain ⟨hx27_0, hf27_0⟩ := Kd.R_celln 0 HO_7.out ((ji24) : Int) p27 q27
                              (try simp only [Go.IntWalk.toNatUp] at hx27_0 hf27_0)
                              replace p27 := eq_true p27
                              replace q27 := eq_true q27
                              have HP29 := Kd.R_putg HO_7.out ((ji24) : Int) ((IntKind.u64.wrap (x10_2 + (IntKind.u64.wrap ((IntKind.u64.wrap ((IntKind.u64.wrap ((rd t179 x25_1))) * (IntKind.u64.wrap (rd t182 x32_2)))) + (IntKind.u64.wrap (rd x7_2 (ji24))))))) % 4294967296)
                              go_wp2_with (first | ((with_reducible refine gate_store (t := 23) (p := 58) rfl ?_); refine store_event (t := 23) (p := 58) (v := ?vo_w30) (w1 := (wr.setCell ⟨go27, ((ji24) : Int).toNat, none⟩ (.int .u32 ((IntKind.u64.wrap (x10_2 + (IntKind.u64.wrap ((IntKind.u64.wrap ((IntKind.u64.wrap ((rd t179 x25_1))) * (IntKind.u64.wrap (rd t182 x32_2)))) + (IntKind.u64.wrap (rd x7_2 (ji24))))))) % 4294967296)))) ?hg ?ho ?hn ?hr ?_; (case ho => rfl); (case hg => rfl); (case hn => rfl); (case hr => first | (go_simp; done) | (go_simp; rfl)); intro w30 hw; have hg : wr.grownBy w30 (some go27) := (by rw [hw]; exact HP29.2); have hp_ : Kd.R (Kd.int .u32) 23 w30 w.heap.size (fun k_ => some k_ ≠ (.slice (some ad192) t182.length co15 : Value).ownBlock ∧ some k_ ≠ (.slice (some ad191) t179.length co14 : Value).ownBlock ∧ some k_ ≠ (.slice (some ad192) t182.length co15 : Value).ownBlock) (.slice (some ⟨go27, 0, none⟩) x7_2.length co28) y194 := (by rw [hw, Ny194.out]; exact HP29.1); clear HP29; have n0_ := Aside0.mk (Kd.R_after (v := (.slice (some ⟨go27, 0, none⟩) x7_2.length co28)) (v1 := (.slice (some ⟨go27, 0, none⟩) x7_2.length co28)) (ok := (fun k_ => some k_ ≠ (.slice (some ad191) t179.length co14 : Value).ownBlock)) (by (with_reducible repeat (first | apply Kd.R_alloc | apply Kd.R_drewN | apply Kd.R_drew)); exact Kd.R_mono HO_6.out (fun _ hk => ⟨hk.2, hk.1⟩)) hg (.inl rfl)); have n1_ := Aside0.mk (hp_); have n2_ := Aside0.mk (Kd.R_after (v := (.slice (some ⟨go27, 0, none⟩) x7_2.length co28)) (v1 := (.slice (some ⟨go27, 0, none⟩) x7_2.length co28)) (ok := (fun k_ => some k_ ≠ (.slice (some ad192) t182.length co15 : Value).ownBlock ∧ some k_ ≠ (.slice (some ad192) t182.length co15 : Value).ownBlock)) (by (with_reducible repeat (first | apply Kd.R_alloc | apply Kd.R_drewN | apply Kd.R_drew)); exact Kd.R_mono HO_23.out (fun _ hk => ⟨⟨hk.1, hk.2.2⟩, hk.2.1⟩)) hg (.inl rfl)); have n3_ := Aside0.mk (Kd.R_after (v := (.slice (some ⟨go27, 0, none⟩) x7_2.length co28)) (v1 := (.slice (some ⟨go27, 0, none⟩) x7_2.length co28)) (ok := (fun k_ => some k_ ≠ (.slice (some ad191) t179.length co14 : Value).ownBlock)) (by (with_reducible repeat (first | apply Kd.R_alloc | apply Kd.R_drewN | apply Kd.R_drew)); exact Kd.R_mono HO_30.out (fun _ hk => ⟨hk.2, hk.1⟩)) hg (.inl rfl)); have n4_ := Aside0.mk (blk_grown (g := gb176) (o := .cells #[.slice A0_0 l0_0.length c0_0] 25 (0, 0)) (by (with_reducible repeat (first | refine blk_drewN ?_ _ | refine blk_drew ?_ | refine blk_alloc ?_ _)); exact BK176.out) hg (Kd.R_ne HO_7.out BK176.out (by decide))); have n5_ := Aside0.mk (blk_grown (g := gb177) (o := .cells #[.slice A1_0 l1_0.length c1_0] 25 (0, 0)) (by (with_reducible repeat (first | refine blk_drewN ?_ _ | refine blk_drew ?_ | refine blk_alloc ?_ _)); exact BK177.out) hg (Kd.R_ne HO_7.out BK177.out (by decide))); have n6_ := Aside0.mk (blk_grown (g := gb178) (o := .cells #[.slice none 0 0] 25 (0, 0)) (by (with_reducible repeat (first | refine blk_drewN ?_ _ | refine blk_drew ?_ | refine blk_alloc ?_ _)); exact BK178.out) hg (Kd.R_ne HO_7.out BK178.out (by decide))); have n7_ := Aside0.mk ((by rw [hw]; exact below_set (HB.out) GB27.out : Below w.heap.size w w30)); clear HO_6; clear HO_7; clear HO_23; clear HO_30; clear BK176; clear BK177; clear BK178; clear HB; have HO_6 := n0_; have HO_7 := n1_; have HO_23 := n2_; have HO_30 := n3_; have BK176 := n4_; have BK177 := n5_; have BK178 := n6_; have HB := n7_; clear n0_ n1_ n2_ n3_ n4_ n5_ n6_ n7_; clear hg hw hp_))
                              go_roundg k2
                              case measure => have := HK1.out; have := HK2.out; omega
                              case rel => exact ⟨(y194), ((IntKind.u64.wrap (x10_2 + (IntKind.u64.wrap ((IntKind.u64.wrap ((IntKind.u64.wrap ((rd t179 x25_1))) * (IntKind.u64.wrap (rd t182 x32_2)))) + (IntKind.u64.wrap (rd x7_2 (ji24))))))) / 4294967296), (wrap64 (x32_2 + 1)), (by first | rfl | (simp; done) | (simp only [← hji24] <;> (first | rfl | simp)) | (simp [*]; done)), (by first | rfl | (simp; done) | (simp [*]; done)), H', ⟨by have := HK1.out; have := HK2.out; omega⟩, ⟨by (with_reducible repeat (first | apply Kd.R_alloc | apply Kd.R_drewN | apply Kd.R_drew)); exact Kd.R_mono HO_6.out (fun _ hk => ⟨hk.2, hk.1⟩)⟩, ⟨by (with_reducible repeat (first | apply Kd.R_alloc | apply Kd.R_drewN | apply Kd.R_drew)); exact HO_7.out⟩, ⟨by (with_reducible repeat (first | apply Kd.R_alloc | apply Kd.R_drewN | apply Kd.R_drew)); exact Kd.R_mono HO_23.out (fun _ hk => ⟨hk.1.1, ⟨hk.2, hk.1.2⟩⟩)⟩, ⟨by (with_reducible repeat (first | apply Kd.R_alloc | apply Kd.R_drewN | apply Kd.R_drew)); exact Kd.R_mono HO_30.out (fun _ hk => ⟨hk.2, hk.1⟩)⟩, ⟨by (with_reducible repeat (first | refine blk_drewN ?_ _ | refine blk_drew ?_ | refine blk_alloc ?_ _)); exact BK176.out⟩, ⟨by (with_reducible repeat (first | refine blk_drewN ?_ _ | refine blk_drew ?_ | refine blk_alloc ?_ _)); exact BK177.out⟩, ⟨by (with_reducible repeat (first | refine blk_drewN ?_ _ | refine blk_drew ?_ | refine blk_alloc ?_ _)); exact BK178.out⟩, ⟨by repeat (first | (with_reducible first | exact HB.out | apply below_alloc | apply pw_below_drewN | apply below_drew1 | refine below_set ?_ GE176.out | refine below_set ?_ GE177.out | refine below_set ?_ GE178.out) | exact HB.out)⟩⟩
                            · rw [if_neg c26] at H
                              exact absurd H (by simp)
                          · rw [if_neg c25] at H
                            exact absurd H (by simp)
                        · rw [if_neg c23] at H
                          exact absurd H (by simp)
                      · rw [if_neg c22] at H
                        exact absurd H (by simp)
                    · rw [if_neg c21] at H
                      have c21b0 : decide (x32_2 < (t182.length : Int)) = false := decide_eq_false c21
                      clear c21
                      obtain ⟨ji31, hji31⟩ : ∃ j_ : Int, (wrap64 (x25_1 + (t182.length : Int))) = j_ := ⟨_, rfl⟩
                      replace H : (if 0 ≤ (ji31) then (if (ji31) < (x7_2.length : Int) then (times_Mul.l0 k2 t182 (x7_2.set ((ji31) : Int).toNat ((x10_2) % 4294967296)) t179 (t179.length : Int) (wrap64 (x25_1 + 1))) else (none)) else (none)) = some r := by first | (rw [hji31] at H; exact H) | (simp only [hji31] at H ⊢; exact H)
                      have hji31w : (IntKind.i64.wrap (x25_1 + (t182.length : Int))) = ji31 := (i64_w _).trans hji31
                      by_cases c32 : 0 ≤ (ji31)
                      · rw [if_pos c32] at H
                        have c32b0 : decide (0 ≤ (ji31)) = true := decide_eq_true c32
                        clear c32
                        by_cases c33 : (ji31) < (x7_2.length : Int)
                        · rw [if_pos c33] at H
                          have c33b0 : decide ((ji31) < (x7_2.length : Int)) = true := decide_eq_true c33
                          clear c33
                          obtain ⟨y195, hy195⟩ : ∃ y_ : List Int, y_ = (x7_2.set ((ji31) : Int).toNat ((x10_2) % 4294967296)) := ⟨_, rfl⟩
                          replace H : (times_Mul.l0 k2 t182 y195 t179 (t179.length : Int) (wrap64 (x25_1 + 1))) = some r := by first | (rw [hy195]; with_reducible exact H) | (have H2_ := (Option.bind_some _ _).symm.trans H; rw [hy195]; with_reducible exact H2_) | (have H2_ := (Option.bind_some _ _).symm.trans H; with_reducible exact H2_) | with_reducible exact H | (rw [hy195]; exact H) | exact H
                          have Ny195 := Aside0.mk hy195
                          clear hy195
                          have H' := Aside0.mk H
                          clear H
                          have p34 : 0 ≤ ((ji31) : Int) := of_decide_eq_true (by first | (with_reducible assumption) | assumption)
                          have q34 : ((ji31) : Int) < ((x7_2.length : Int) : Int) := of_decide_eq_true (by first | (with_reducible assumption) | assumption)
                          obtain ⟨go34, co34, eo34, gb34, gl34, cl34, HG34⟩ := Kd.R_form HO_7.out (by omega)
                          (first | cases eo34 | (injection eo34 with ea_ en_ ec_; (first | subst ea_ | (injection ea_ with ea_; subst ea_)); subst ec_; clear en_))
                          have GB34 := Aside0.mk gb34
                          have GG34 := Aside0.mk HG34
                          clear gb34 gl34 HG34
                          obtain ⟨hx34_0, hf34_0⟩ := Kd.R_celln 0 HO_7.out ((ji31) : Int) p34 q34
                          (try simp only [Go.IntWalk.toNatUp] at hx34_0 hf34_0)
                          replace p34 := eq_true p34
                          replace q34 := eq_true q34
                          have HP35 := Kd.R_putg HO_7.out ((ji31) : Int) ((x10_2) % 4294967296)
                          go_wp2_with (first | ((with_reducible refine gate_store (t := 23) (p := 69) rfl ?_); refine store_event (t := 23) (p := 69) (v := ?vo_w36) (w1 := (wr.setCell ⟨go34, ((ji31) : Int).toNat, none⟩ (.int .u32 ((x10_2) % 4294967296)))) ?hg ?ho ?hn ?hr ?_; (case ho => rfl); (case hg => rfl); (case hn => rfl); (case hr => first | (go_simp; done) | (go_simp; rfl)); intro w36 hw; have hg : wr.grownBy w36 (some go34) := (by rw [hw]; exact HP35.2); have hp_ : Kd.R (Kd.int .u32) 23 w36 w.heap.size (fun k_ => some k_ ≠ (.slice Ao15 t182.length co15 : Value).ownBlock ∧ some k_ ≠ (.slice (some ad191) t179.length co14 : Value).ownBlock ∧ some k_ ≠ (.slice Ao15 t182.length co15 : Value).ownBlock) (.slice (some ⟨go34, 0, none⟩) x7_2.length co34) y195 := (by rw [hw, Ny195.out]; exact HP35.1); clear HP35; have n0_ := Aside0.mk (Kd.R_after (v := (.slice (some ⟨go34, 0, none⟩) x7_2.length co34)) (v1 := (.slice (some ⟨go34, 0, none⟩) x7_2.length co34)) (ok := (fun k_ => some k_ ≠ (.slice (some ad191) t179.length co14 : Value).ownBlock)) (by (with_reducible repeat (first | apply Kd.R_alloc | apply Kd.R_drewN | apply Kd.R_drew)); exact Kd.R_mono HO_6.out (fun _ hk => ⟨hk.2, hk.1⟩)) hg (.inl rfl)); have n1_ := Aside0.mk (hp_); have n2_ := Aside0.mk (Kd.R_after (v := (.slice (some ⟨go34, 0, none⟩) x7_2.length co34)) (v1 := (.slice (some ⟨go34, 0, none⟩) x7_2.length co34)) (ok := (fun k_ => some k_ ≠ (.slice Ao15 t182.length co15 : Value).ownBlock ∧ some k_ ≠ (.slice Ao15 t182.length co15 : Value).ownBlock)) (by (with_reducible repeat (first | apply Kd.R_alloc | apply Kd.R_drewN | apply Kd.R_drew)); exact Kd.R_mono HO_23.out (fun _ hk => ⟨⟨hk.1, hk.2.2⟩, hk.2.1⟩)) hg (.inl rfl)); have n3_ := Aside0.mk (Kd.R_after (v := (.slice (some ⟨go34, 0, none⟩) x7_2.length co34)) (v1 := (.slice (some ⟨go34, 0, none⟩) x7_2.length co34)) (ok := (fun k_ => some k_ ≠ (.slice (some ad191) t179.length co14 : Value).ownBlock)) (by (with_reducible repeat (first | apply Kd.R_alloc | apply Kd.R_drewN | apply Kd.R_drew)); exact Kd.R_mono HO_30.out (fun _ hk => ⟨hk.2, hk.1⟩)) hg (.inl rfl)); have n4_ := Aside0.mk (blk_grown (g := gb176) (o := .cells #[.slice A0_0 l0_0.length c0_0] 25 (0, 0)) (by (with_reducible repeat (first | refine blk_drewN ?_ _ | refine blk_drew ?_ | refine blk_alloc ?_ _)); exact BK176.out) hg (Kd.R_ne HO_7.out BK176.out (by decide))); have n5_ := Aside0.mk (blk_grown (g := gb177) (o := .cells #[.slice A1_0 l1_0.length c1_0] 25 (0, 0)) (by (with_reducible repeat (first | refine blk_drewN ?_ _ | refine blk_drew ?_ | refine blk_alloc ?_ _)); exact BK177.out) hg (Kd.R_ne HO_7.out BK177.out (by decide))); have n6_ := Aside0.mk (blk_grown (g := gb178) (o := .cells #[.slice none 0 0] 25 (0, 0)) (by (with_reducible repeat (first | refine blk_drewN ?_ _ | refine blk_drew ?_ | refine blk_alloc ?_ _)); exact BK178.out) hg (Kd.R_ne HO_7.out BK178.out (by decide))); have n7_ := Aside0.mk ((by rw [hw]; exact below_set (HB.out) GB34.out : Below w.heap.size w w36)); clear HO_6; clear HO_7; clear HO_23; clear HO_30; clear BK176; clear BK177; clear BK178; clear HB; have HO_6 := n0_; have HO_7 := n1_; have HO_23 := n2_; have HO_30 := n3_; have BK176 := n4_; have BK177 := n5_; have BK178 := n6_; have HB := n7_; clear n0_ n1_ n2_ n3_ n4_ n5_ n6_ n7_; clear hg hw hp_))
                          go_roundg k2
                          case measure => have := HK1.out; have := HK2.out; omega
                          case rel => exact ⟨(y195), (wrap64 (x25_1 + 1)), (by first | rfl | (simp; done) | (simp [*]; done)), H', ⟨by have := HK1.out; have := HK2.out; omega⟩, ⟨by (with_reducible repeat (first | apply Kd.R_alloc | apply Kd.R_drewN | apply Kd.R_drew)); exact Kd.R_mono HO_6.out (fun _ hk => ⟨hk.2, hk.1⟩)⟩, ⟨by (with_reducible repeat (first | apply Kd.R_alloc | apply Kd.R_drewN | apply Kd.R_drew)); exact Kd.R_mono HO_7.out (fun _ hk => ⟨hk.1, hk.2.1⟩)⟩, ⟨by (with_reducible repeat (first | apply Kd.R_alloc | apply Kd.R_drewN | apply Kd.R_drew)); exact Kd.R_mono HO_23.out (fun _ hk => ⟨hk.1.1, hk.2⟩)⟩, ⟨by (with_reducible repeat (first | refine blk_drewN ?_ _ | refine blk_drew ?_ | refine blk_alloc ?_ _)); exact BK176.out⟩, ⟨by (with_reducible repeat (first | refine blk_drewN ?_ _ | refine blk_drew ?_ | refine blk_alloc ?_ _)); exact BK177.out⟩, ⟨by (with_reducible repeat (first | refine blk_drewN ?_ _ | refine blk_drew ?_ | refine blk_alloc ?_ _)); exact BK178.out⟩, ⟨by repeat (first | (with_reducible first | exact HB.out | apply below_alloc | apply pw_below_drewN | apply below_drew1 | refine below_set ?_ GE176.out | refine below_set ?_ GE177.out | refine below_set ?_ GE178.out) | exact HB.out)⟩⟩
                        · rw [if_neg c33] at H
                          exact absurd H (by simp)
                      · rw [if_neg c32] at H
                        exact absurd H (by simp)
              · rw [if_neg c20] at H
                exact absurd H (by simp)
            · rw [if_neg c19] at H
              exact absurd H (by simp)
          · rw [if_neg c18] at H
            have c18b0 : decide (x25_1 < (t179.length : Int)) = false := decide_eq_false c18
            clear c18
            replace H := Option.bind_eq_some_iff.mp H
            obtain ⟨t188, A370, H⟩ := H
            replace H : (some t188) = some r := H
            have A37 := Aside0.mk A370
            clear A370
            obtain rfl := Option.some.inj H
            obtain ⟨Ao38, co38, eo38⟩ := Kd.R_slice HO_7.out
            subst eo38
            go_wp2_with (first | ((with_reducible refine gate_callee (f := 16) rfl ?_); refine goesL_ (some 72) rfl rfl Try.func16 (by kernel_rfl) rfl #[.slice Ao38 x7_1.length co38] rfl (by (try simp only [List.map_toArray, List.map_cons, List.map_nil]); first | done | rfl | (simp only [List.length_drop, List.length_take]; rfl)) ?_; (with_reducible refine (nat_Made.calls k1 _ _ x7_1 t188 _ ?side1 ?side2 A37.out).mono ?_); (case side1 => repeat (first | exact (Kd.R_reads' HO_7.out).2.2 | (with_reducible refine Kd.C_alloc ?_ _) | (with_reducible refine Kd.C_drewN ?_ _) | (with_reducible refine Kd.C_drew ?_))); (case side2 => exact (Kd.R_reads' HO_7.out).2.1); rintro e w39 ⟨v189, rfl, ho0, hb⟩; refine ⟨_, rfl, ?_⟩; have n0_ := Aside0.mk (Kd.R_elder' (by (with_reducible repeat (first | apply Kd.R_alloc | apply Kd.R_drewN | apply Kd.R_drew)); exact HO_6.out) (Kd.R_base ho0) hb); have n1_ := Aside0.mk (Kd.R_elder' (by (with_reducible repeat (first | apply Kd.R_alloc | apply Kd.R_drewN | apply Kd.R_drew)); exact HO_7.out) (Kd.R_base ho0) hb); have n2_ := Aside0.mk (Kd.R_elder' (by (with_reducible repeat (first | apply Kd.R_alloc | apply Kd.R_drewN | apply Kd.R_drew)); exact HO_23.out) (Kd.R_base ho0) hb); have n3_ := Aside0.mk (Kd.R_lower (Kd.R_new' (Kd.R_new' (Kd.R_new' ho0 (Kd.R_lt (by (with_reducible repeat (first | apply Kd.R_alloc | apply Kd.R_drewN | apply Kd.R_drew)); exact HO_6.out))) (Kd.R_lt (by (with_reducible repeat (first | apply Kd.R_alloc | apply Kd.R_drewN | apply Kd.R_drew)); exact HO_7.out))) (Kd.R_lt (by (with_reducible repeat (first | apply Kd.R_alloc | apply Kd.R_drewN | apply Kd.R_drew)); exact HO_23.out))) (below_size (by repeat (first | (with_reducible first | exact HB.out | apply below_alloc | apply pw_below_drewN | apply below_drew1 | refine below_set ?_ GE176.out | refine below_set ?_ GE177.out | refine below_set ?_ GE178.out) | exact HB.out)))); have n4_ := Aside0.mk (blk_below (g := gb176) (o := .cells #[.slice A0_0 l0_0.length c0_0] 25 (0, 0)) (by (with_reducible repeat (first | refine blk_drewN ?_ _ | refine blk_drew ?_ | refine blk_alloc ?_ _)); exact BK176.out) hb); have n5_ := Aside0.mk (blk_below (g := gb177) (o := .cells #[.slice A1_0 l1_0.length c1_0] 25 (0, 0)) (by (with_reducible repeat (first | refine blk_drewN ?_ _ | refine blk_drew ?_ | refine blk_alloc ?_ _)); exact BK177.out) hb); have n6_ := Aside0.mk (blk_below (g := gb178) (o := .cells #[.slice none 0 0] 25 (0, 0)) (by (with_reducible repeat (first | refine blk_drewN ?_ _ | refine blk_drew ?_ | refine blk_alloc ?_ _)); exact BK178.out) hb); have n7_ := Aside0.mk (below_step (by repeat (first | (with_reducible first | exact HB.out | apply below_alloc | apply pw_below_drewN | apply below_drew1 | refine below_set ?_ GE176.out | refine below_set ?_ GE177.out | refine below_set ?_ GE178.out) | exact HB.out)) hb); clear HO_6; clear HO_7; clear HO_23; clear BK176; clear BK177; clear BK178; clear HB; have HO_6 := n0_; have HO_7 := n1_; have HO_23 := n2_; have HO190 := n3_; have BK176 := n4_; have BK177 := n5_; have BK178 := n6_; have HB := n7_; clear n0_ n1_ n2_ n3_ n4_ n5_ n6_ n7_; (try clear hb); (try clear hb2); (try clear hk); (try clear hi); (try clear ho0); obtain ⟨Ao40, co40, eo40⟩ := Kd.R_slice HO190.out; subst eo40; have hnb41 := NB178_176.out; have hnc41 := NB176_178.out; have hnb42 := NB178_177.out; have hnc42 := NB177_178.out; have hcz43_0 : w39.cell? ⟨gb178, 0, none⟩ = some (.slice none 0 0) := (blk_cell BK178.out 0).trans rfl; have hfz43_0 := blk_frozen BK178.out 0))
            refine bodyPost_ret (results_cell_row rfl _ _ gb178 25 #[.slice Ao40 t188.length co40] (0, 0) _ rfl (by (with_reducible repeat (first | refine blk_drewN ?_ _ | refine blk_drew ?_ | refine blk_alloc ?_ _)); refine blk_put (cs := #[.slice none 0 0]) ?_ 0 _ rfl; (with_reducible repeat (first | refine blk_drewN ?_ _ | refine blk_drew ?_ | refine blk_alloc ?_ _)); exact BK178.out) Try.underlying25 rfl (by kernel_rfl)) rfl ?_
            exact ⟨_, by first | rfl | (simp [errW_none, errW_some] <;> rfl) | (simp only [← hji5]; first | rfl | (simp [errW_none, errW_some] <;> rfl)) | (simp [*, errW_none, errW_some] <;> rfl), by (with_reducible repeat (first | apply Kd.R_alloc | apply Kd.R_drewN | apply Kd.R_drew)); exact Kd.R_mono (Kd.R_far (p := ⟨gb178, 0, none⟩) (Kd.R_types HO190.out BK178.out (by decide)) (fun _ hk => hk.2) (.slice Ao40 t188.length co40)) (fun _ hk => trivial), by repeat (first | (with_reducible first | exact HB.out | apply below_alloc | apply pw_below_drewN | apply below_drew1 | refine below_set ?_ GE176.out | refine below_set ?_ GE177.out | refine below_set ?_ GE178.out) | exact HB.out)⟩
    · rw [if_neg c7] at H
      exact absurd H (by simp)
  · rw [if_neg c6] at H
    exact absurd H (by simp)

end Go.Proofs.Ytcepdndhkidehaa.PA

