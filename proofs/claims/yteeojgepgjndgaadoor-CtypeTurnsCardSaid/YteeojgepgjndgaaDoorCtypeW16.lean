/-
  The least multiple that isn't below: the program's, the reference's.
-/
import Derived.Test.YteeojgepgjndgaaDoorProg
import Derived.Test.YteeojgepgjndgaaDoorCtypeLaw2
import Derived.Test.YteeojgepgjndgaaDoorIf
import Derived.Outline
namespace Go.Proofs.YteeojgepgjndgaaDoor
open Go.RowKit
set_option linter.unusedVariables false
set_option linter.unusedSimpArgs false

set_option maxRecDepth 100000 in
set_option maxHeartbeats 1000000 in
theorem up_any (n a : Int) (hn : 0 ≤ n ∧ n ≤ 8388608) (ha : Al a) (w : World) : Calls Tryd.prog 73 #[.int .i64 n, .int .i64 a] w fun e w' => e = .returned (.int .i64 (upTo n a)) ∧ w = w' := by
  obtain ⟨h1, h2⟩ := hn
  rcases ha with rfl | rfl | rfl | rfl
  all_goals (
    go_enter Tryd.func73, Tryd.ntmps73
    go_wp2
    go_returns
    refine ⟨?_, rfl⟩
    simp [upTo])
set_option maxRecDepth 100000 in
set_option maxHeartbeats 1000000 in
theorem rup_any (n a : Int) (hn : 0 ≤ n ∧ n ≤ 8388608) (ha : Al a) (w : World) : Calls Tryd.prog 75 #[.int .i64 n, .int .i64 a] w fun e w' => e = .returned (.int .i64 (upTo n a)) ∧ w = w' := by
  obtain ⟨h1, h2⟩ := hn
  rcases ha with rfl | rfl | rfl | rfl
  all_goals (
    go_enter Tryd.func75, Tryd.ntmps75
    go_wp2
    all_goals (
      go_returns
      refine ⟨?_, rfl⟩
      simp only [bne_iff_ne, ne_eq, bne_eq_false_iff_eq] at *
      simp [upTo]
      try omega))
end Go.Proofs.YteeojgepgjndgaaDoor
