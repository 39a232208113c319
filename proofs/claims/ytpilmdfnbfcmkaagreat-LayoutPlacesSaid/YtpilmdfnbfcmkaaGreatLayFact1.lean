/-
  A closed fact of the program that the row asks for, by the kernel.
-/
import Derived.Test.YtpilmdfnbfcmkaaGreatRows
import Derived.JoinedOf
import Derived.KernelRfl
namespace Go.Proofs.YtpilmdfnbfcmkaaGreat.layoutPlaces
set_option maxRecDepth 1000000
theorem fact1 : (Rows.layoutPlacesRow.inPlace == Tryz.prog.inPlace 3) = true := by kernel_rfl
end Go.Proofs.YtpilmdfnbfcmkaaGreat.layoutPlaces
