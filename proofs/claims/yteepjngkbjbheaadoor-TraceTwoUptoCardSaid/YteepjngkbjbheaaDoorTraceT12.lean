/-
  The tables that Text reads, out of what the row lists.
-/
import Derived.Test.YteepjngkbjbheaaDoorTraceT4
import Derived.Test.YteepjngkbjbheaaDoorRows
import Derived.LaidMore
import Derived.Lib.LaidTab
namespace Go.Proofs.YteepjngkbjbheaaDoor
open Go.RowKit
set_option linter.unusedVariables false

/-- The tables that the rows list. -/
def laidT : List (String × DataW Unit) := [("math/bits.deBruijn32tab", Rows.laid_math_bits_deBruijn32tab), ("math/bits.deBruijn64tab", Rows.laid_math_bits_deBruijn64tab), ("internal/strconv.uint64pow10", Rows.laid_internal_strconv_uint64pow10)]
theorem tab_data : (Rows.laid_internal_strconv_uint64pow10 : DataW Unit) = Lib.tabData .u64 Lib.pow10Tab := by
  simp [Rows.laid_internal_strconv_uint64pow10, Lib.tabData, Lib.pow10Tab, List.range_succ]
def litZ : DataW Unit → Int
  | .lit (.int _ z) => z
  | _ => 0
def litsZ : DataW Unit → List Int
  | .agg l => l.map litZ
  | _ => []
def dbTab : List Int := litsZ Rows.laid_math_bits_deBruijn64tab
theorem db_data : (Rows.laid_math_bits_deBruijn64tab : DataW Unit) = Lib.tabData .u8 dbTab := by kernel_rfl
theorem laid_tail {P : Program} {x : String × DataW Unit} {l : List (String × DataW Unit)} {w : World} (h : laidMet P (x :: l) w) : laidMet P l w := by
  obtain ⟨n, d⟩ := x
  obtain ⟨ps, hl, hn, hall⟩ := h
  obtain ⟨g, t, cs, fuel, p, q, h1, h2, h3, h4, h5, rfl⟩ := hl
  exact ⟨q, h5, (List.nodup_append.1 hn).2.1, fun b off hb => hall b off (List.mem_append_right _ hb)⟩
theorem tabW_of {W : World} (h : laidMetH Tryd.prog laidT W) : TabW W := by
  have h0 : laidMet Tryd.prog laidT W := h
  unfold laidT at h0
  rw [tab_data] at h0
  have h1 := laid_tail (laid_tail h0)
  obtain ⟨g, hg⟩ := gTab
  have hty : (Tryd.prog.globals[g]?).map (·.type) = some 113 := by
    have h : ((Tryd.prog.globalNamed "internal/strconv.uint64pow10").bind fun g => (Tryd.prog.globals[g]?).map (·.type)) = some 113 := by kernel_rfl
    rw [hg] at h
    exact h
  exact Lib.tabIs_of_head hg hty Tryd.underlying113 Tryd.underlying28 (by kernel_rfl) (by kernel_rfl) h1
theorem tabZ_of {W : World} (h : laidMetH Tryd.prog laidT W) : TabZ W := by
  have h0 : laidMet Tryd.prog laidT W := h
  unfold laidT at h0
  rw [db_data] at h0
  have h1 := laid_tail h0
  have hg : Tryd.prog.globalNamed "math/bits.deBruijn64tab" = some 4 := by kernel_rfl
  have hty : (Tryd.prog.globals[4]?).map (·.type) = some 119 := by kernel_rfl
  have h2 := Lib.tabIs_of_head hg hty Tryd.underlying119 Tryd.underlying5 (by kernel_rfl) (by kernel_rfl) h1
  have h3 := Lib.TabIs.cell h2 hg 15 (by show 15 < dbTab.length; have : dbTab.length = 64 := by kernel_rfl
                                         omega)
  rw [show dbTab.getD 15 0 = 4 from by kernel_rfl] at h3
  refine ⟨?_, h3⟩
  have := cell_block h3
  exact this
theorem tabT_of {W : World} (h : laidMetH Tryd.prog laidT W) : TabT W := ⟨tabW_of h, tabZ_of h⟩
end Go.Proofs.YteepjngkbjbheaaDoor
