/-
  The table of decimal powers, out of what the row lists.
-/
import Derived.Test.YteeojgepgjndgaaDoorCtypeW21
import Derived.Test.YteeojgepgjndgaaDoorRows
import Derived.LaidMore
import Derived.Lib.LaidTab
namespace Go.Proofs.YteeojgepgjndgaaDoor
open Go.RowKit
set_option linter.unusedVariables false

/-- The tables that the rows list. -/
def laidC : List (String × DataW Unit) := [("math/bits.deBruijn32tab", Rows.laid_math_bits_deBruijn32tab), ("math/bits.deBruijn64tab", Rows.laid_math_bits_deBruijn64tab), ("internal/strconv.uint64pow10", Rows.laid_internal_strconv_uint64pow10)]
theorem tab_data : (Rows.laid_internal_strconv_uint64pow10 : DataW Unit) = Lib.tabData .u64 Lib.pow10Tab := by
  simp [Rows.laid_internal_strconv_uint64pow10, Lib.tabData, Lib.pow10Tab, List.range_succ]
theorem laid_tail {P : Program} {x : String × DataW Unit} {l : List (String × DataW Unit)} {w : World} (h : laidMet P (x :: l) w) : laidMet P l w := by
  obtain ⟨n, d⟩ := x
  obtain ⟨ps, hl, hn, hall⟩ := h
  obtain ⟨g, t, cs, fuel, p, q, h1, h2, h3, h4, h5, rfl⟩ := hl
  exact ⟨q, h5, (List.nodup_append.1 hn).2.1, fun b off hb => hall b off (List.mem_append_right _ hb)⟩
theorem tabW_of {W : World} (h : laidMetH Tryd.prog laidC W) : TabW W := by
  have h0 : laidMet Tryd.prog laidC W := h
  unfold laidC at h0
  rw [tab_data] at h0
  have h1 := laid_tail (laid_tail h0)
  obtain ⟨g, hg⟩ := gTab
  have hty : (Tryd.prog.globals[g]?).map (·.type) = some 168 := by
    have h : ((Tryd.prog.globalNamed "internal/strconv.uint64pow10").bind fun g => (Tryd.prog.globals[g]?).map (·.type)) = some 168 := by kernel_rfl
    rw [hg] at h
    exact h
  exact Lib.tabIs_of_head hg hty Tryd.underlying168 Tryd.underlying62 (by kernel_rfl) (by kernel_rfl) h1
end Go.Proofs.YteeojgepgjndgaaDoor
