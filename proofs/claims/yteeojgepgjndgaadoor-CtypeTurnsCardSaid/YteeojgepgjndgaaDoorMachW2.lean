/-
  The walks of layer 1's functions on whole numbers.
-/
import Derived.Test.YteeojgepgjndgaaDoorMachW1
import Derived.Lib.Hide
namespace Go.Proofs.YteeojgepgjndgaaDoor
set_option linter.unusedVariables false
set_option maxRecDepth 100000
set_option linter.unusedSimpArgs false
open Go.RowKit

/-! ### the quotients -/
/-! ### the shifts -/
def cut32 (op v : Int) : Int := if op = 13 then v % 4294967296 else v % 18446744073709551616

/-! ### whole -/
end Go.Proofs.YteeojgepgjndgaaDoor
