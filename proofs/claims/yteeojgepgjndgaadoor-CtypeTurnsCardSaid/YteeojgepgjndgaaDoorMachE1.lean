/-
  Truth, Right, Same: the program's and the reference's.
-/
import Derived.Test.YteeojgepgjndgaaDoorMachW6
import Derived.Test.YteeojgepgjndgaaDoorRegion
namespace Go.Proofs.YteeojgepgjndgaaDoor
open Go.RowKit
set_option linter.unusedVariables false
set_option maxRecDepth 100000
set_option linter.unusedSimpArgs false

def truthV (k b : Int) : Bool × Bool :=
  if k = 1 then (decide (b % 4294967296 ≠ 0), true) else if k = 2 then (decide (b ≠ 0), true)
  else if k = 3 then (ford b.toNat 0 != some .eq, true) else if k = 4 then (true, true) else (false, false)
def rightV (k b l : Int) : Bool :=
  if k = 0 then decide (b = 0 ∧ l = 0) else if k = 1 then decide (b < 4294967296 ∧ l = 0) else if k = 2 ∨ k = 3 then decide (l = 0) else decide (k = 4 ∧ l ≠ 0)

attribute [local go_sem] frombits_run tobits_run
set_option maxHeartbeats 1000000 in
theorem truth_any (k b l : Int) (hb : U64 b) (w : World) :
    Calls Tryd.prog 88 #[.agg #[.int .i64 k, .int .u64 b, .int .i64 l]] w fun e w' => e = .returned (.tuple #[.bool (truthV k b).1, .bool (truthV k b).2]) ∧ Below w.heap.size w w' := by
  by_cases c1 : k = 1
  · subst c1
    go_enter Tryd.func88, Tryd.ntmps88
    go_wp2
    all_goals (go_returns; refine ⟨?_, by (repeat' (first | (with_reducible exact Below.refl _ _) | (with_reducible assumption) | (with_reducible refine Below.setCell ?_ ?_ _) | (with_reducible refine Below.alloc ?_ ?_ _) | (with_reducible refine Below.drew ?_) | (with_reducible refine below_drewN ?_ _) | (with_reducible refine below_next ?_ (by with_reducible assumption)) | omega | (dsimp only; omega) | (simp only [World.size_alloc, World.size_setCell, World.size_drew, World.heap_drewN]; omega)))⟩; go_light; simp [truthV]; try grind)
  by_cases c2 : k = 2
  · subst c2
    go_enter Tryd.func88, Tryd.ntmps88
    go_wp2
    all_goals (go_returns; refine ⟨?_, by (repeat' (first | (with_reducible exact Below.refl _ _) | (with_reducible assumption) | (with_reducible refine Below.setCell ?_ ?_ _) | (with_reducible refine Below.alloc ?_ ?_ _) | (with_reducible refine Below.drew ?_) | (with_reducible refine below_drewN ?_ _) | (with_reducible refine below_next ?_ (by with_reducible assumption)) | omega | (dsimp only; omega) | (simp only [World.size_alloc, World.size_setCell, World.size_drew, World.heap_drewN]; omega)))⟩; go_light; simp [truthV]; try grind)
  by_cases c3 : k = 3
  · subst c3
    go_enter Tryd.func88, Tryd.ntmps88
    go_wp2
    all_goals (go_returns; refine ⟨?_, by (repeat' (first | (with_reducible exact Below.refl _ _) | (with_reducible assumption) | (with_reducible refine Below.setCell ?_ ?_ _) | (with_reducible refine Below.alloc ?_ ?_ _) | (with_reducible refine Below.drew ?_) | (with_reducible refine below_drewN ?_ _) | (with_reducible refine below_next ?_ (by with_reducible assumption)) | omega | (dsimp only; omega) | (simp only [World.size_alloc, World.size_setCell, World.size_drew, World.heap_drewN]; omega)))⟩; go_light; simp [truthV, ford]; try grind)
  have d1 : (k == 1) = false := beq_eq_false_iff_ne.2 c1
  have d2 : (k == 2) = false := beq_eq_false_iff_ne.2 c2
  have d3 : (k == 3) = false := beq_eq_false_iff_ne.2 c3
  have hv : truthV k b = (decide (k = 4), decide (k = 4)) := by simp only [truthV, c1, c2, c3, if_false]; split <;> simp [*]
  have HV := Lib.hid hv
  clear hv c1 c2 c3
  go_enter Tryd.func88, Tryd.ntmps88
  go_wp2
  go_quiet (fail)
  go_wp2
  all_goals (go_returns; refine ⟨?_, by (repeat' (first | (with_reducible exact Below.refl _ _) | (with_reducible assumption) | (with_reducible refine Below.setCell ?_ ?_ _) | (with_reducible refine Below.alloc ?_ ?_ _) | (with_reducible refine Below.drew ?_) | (with_reducible refine below_drewN ?_ _) | (with_reducible refine below_next ?_ (by with_reducible assumption)) | omega | (dsimp only; omega) | (simp only [World.size_alloc, World.size_setCell, World.size_drew, World.heap_drewN]; omega)))⟩; go_light; rw [HV.out]; simp; try grind)

set_option maxHeartbeats 1000000 in
theorem ref_right_any (k b l : Int) (hb : U64 b) (w : World) :
    Calls Tryd.prog 40 #[.agg #[.int .i64 k, .int .u64 b, .int .i64 l]] w fun e w' => e = .returned (.bool (rightV k b l)) ∧ Below w.heap.size w w' := by
  obtain ⟨hb1, hb2⟩ := hb
  go_enter Tryd.func40, Tryd.ntmps40
  go_wp2
  all_goals (go_returns; refine ⟨?_, by (repeat' (first | (with_reducible exact Below.refl _ _) | (with_reducible assumption) | (with_reducible refine Below.setCell ?_ ?_ _) | (with_reducible refine Below.alloc ?_ ?_ _) | (with_reducible refine Below.drew ?_) | (with_reducible refine below_drewN ?_ _) | (with_reducible refine below_next ?_ (by with_reducible assumption)) | omega | (dsimp only; omega) | (simp only [World.size_alloc, World.size_setCell, World.size_drew, World.heap_drewN]; omega)))⟩; go_light; simp; grind [rightV])

end Go.Proofs.YteeojgepgjndgaaDoor
