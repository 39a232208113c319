/-
  Regions that draw their order and only read and call; the fixed examples; the laws on the program's own calls.
-/
import Derived.Test.YteeojgepgjndgaaDoorMachW5
import Derived.Test.YteeojgepgjndgaaDoorIf
namespace Go.Proofs.YteeojgepgjndgaaDoor
open Go.RowKit
set_option linter.unusedVariables false
set_option maxRecDepth 100000
set_option linter.unusedSimpArgs false

def sizeV (c : Int) : Int := if c = 1 ∨ c = 2 then 1 else if c = 3 ∨ c = 4 then 2 else if c = 5 then 4 else if c = 6 ∨ c = 7 then 8 else 0
end Go.Proofs.YteeojgepgjndgaaDoor
