/-
  A double as a whole number: the reference's; an operation of one: the program's and the reference's.
-/
import Derived.Test.YteeojgepgjndgaaDoorMachE2
namespace Go.Proofs.YteeojgepgjndgaaDoor
open Go.RowKit
set_option linter.unusedVariables false
set_option maxRecDepth 100000
set_option linter.unusedSimpArgs false
set_option exponentiation.threshold 4096

end Go.Proofs.YteeojgepgjndgaaDoor
