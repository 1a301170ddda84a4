/- Functions that are told by hand: that they come to it. -/
import Derived.Tactics
import Derived.Tactics2
import Derived.StillTactics
import Derived.Laws.Pointers
import Derived.RegionTactic
import Derived.LoopTactic
import Derived.ChangeAlike
import Derived.Test.YteidggfjcanbjaaDoorQClockTimesF
import Derived.Test.YteidggfjcanbjaaDoorQClockTimesZS2
namespace Go.Proofs.YteidggfjcanbjaaDoor.F
open Go Go.Proofs Go.Proofs.YteidggfjcanbjaaDoor.E
set_option linter.unusedVariables false
set_option linter.unusedSimpArgs false
/-! ### numerary/clock.part -/
-- import Derived.Tactics
-- import Derived.Tactics2
-- import Derived.StillTactics
-- import Derived.Laws.Pointers
-- import Derived.RegionTactic
-- import Derived.LoopTactic
-- import Derived.ChangeAlike
theorem clock_part.calls (g n : Nat) (y b : Int) (w : World) (hc : w.cell? ⟨g, n, none⟩ = some (.int .u64 y)) (hf : w.frozen? ⟨g, n, none⟩ = false) (hb : b ≠ 0) :
    Calls Tryd.prog 22 #[.pointer (some ⟨g, n, none⟩), .int .u64 b] w fun en w' => en = .returned (.int .i64 (IntKind.i64.wrap (y.tmod b))) ∧ w' = w.setCell ⟨g, n, none⟩ (.int .u64 (IntKind.u64.wrap (y.tdiv b))) := by
  go_enter Tryd.func22, Tryd.ntmps22
  go_wp2
  go_ret
  exact ⟨congrArg (fun z => Ending.returned (Value.int .i64 z)) (by rw [i64_def]; split <;> omega), rfl⟩
theorem clock_part.ok : Ctr Tryd.prog globs 22 clock_part.ent := by
  refine ⟨⟨_, Tryd.func22, rfl, rfl⟩, rfl, fun X y x r w vs g e pre post c hL hgl hX hg hc hh hy ha hF => ?_⟩
  obtain ⟨v, rfl, hv⟩ := ha
  have hv := VR_int hv
  subst hv
  obtain rfl := VR_int hy
  have hx : x ≠ 0 ∧ r = (IntKind.i64.wrap (Int.tmod y x), IntKind.u64.wrap (Int.tdiv y x)) := by
    have hF : clock_part.f y x r := hF
    unfold clock_part.f at hF
    by_cases c : (x : Int) ≠ 0
    · rw [if_pos c] at hF; exact ⟨c, hF⟩
    · rw [if_neg c] at hF; exact hF.elim
  obtain ⟨hx, rfl⟩ := hx
  have hcell : w.cell? ⟨g, pre.length, none⟩ = some (.int .u64 y) := by
    unfold World.cell?; simp only [hh]; simp
  have hfr : w.frozen? ⟨g, pre.length, none⟩ = false := by
    unfold World.frozen?; simp only [hh]; simp
  refine (clock_part.calls g pre.length y x w hcell hfr hx).mono fun en w' ⟨h1, h2⟩ => ?_
  subst h2
  refine ⟨_, h1, ⟨by simp [World.setCell], rfl, rfl, rfl, fun k hk hne => Go.RowKit.Below.heap_setCell _ _ _ _ hne⟩, ⟨e, .int .u64 (IntKind.u64.wrap (Int.tdiv y x)), ?_, rfl, ?_⟩, .inr ?_⟩
  · simp only [World.setCell, Array.getElem?_modify, if_true, hh, Option.map_some]
    simp
  · exact ⟨rfl, rfl⟩
  · exact ⟨rfl, rfl⟩
end Go.Proofs.YteidggfjcanbjaaDoor.F
