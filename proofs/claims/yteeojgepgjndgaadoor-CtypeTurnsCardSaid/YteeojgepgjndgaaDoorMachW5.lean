/-
  The walks of the reference's Eval2 and of the program's; both answer eval2.
-/
import Derived.Test.YteeojgepgjndgaaDoorMachW4
import Derived.Deep.RegionHeld3
namespace Go.Proofs.YteeojgepgjndgaaDoor
open Go.RowKit
set_option linter.unusedVariables false
set_option maxRecDepth 100000
set_option linter.unusedSimpArgs false
/-! ### the small ones, with the world written out -/
attribute [local go_sem] frombits_run tobits_run
/-! ### the program's Eval2 -/
end Go.Proofs.YteeojgepgjndgaaDoor
