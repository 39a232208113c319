/-
  LexCovers, walked: where the text has an error.
-/
import Derived.Test.YteplbbjmbhgllaaGreatDoorLexP46
import Derived.Test.YteplbbjmbhgllaaGreatDoorLexP43
namespace Go.Proofs.YteplbbjmbhgllaaGreatDoor
open Go.RowKit
set_option linter.unusedVariables false
set_option linter.unusedSimpArgs false

theorem err_place {l : List UInt8} {k : Nat} {p1 p2 : Int} (h : Lx.tokensL Lx.flF l = .error (k, (p1, p2))) : k = 1 ∨ (k ≠ 1 ∧ 1 ≤ p1 ∧ 1 ≤ p2) := by
  by_cases hk : k = 1
  · exact .inl hk
  · refine .inr ⟨hk, ?_⟩
    unfold Lx.tokensL at h
    split at h
    · injection h with h; injection h with h _; omega
    · split at h
      · injection h with h; injection h with h _; omega
      · exact Lx.tokensF_err _ _ _ _ _ _ ⟨by decide, by decide⟩ h
set_option maxRecDepth 100000 in
set_option maxHeartbeats 8000000 in
theorem covers_err (s : ByteArray) (k : Nat) (p1 p2 : Int) (h : Lx.tokensL Lx.flF s.data.toList = .error (k, (p1, p2))) (w : World) (hT : Tabs w) (hz : 13 ≤ w.heap.size) : Calls Tryz.prog 4 #[.string s] w fun e w' => e = .returned (.bool true) ∧ Below w.heap.size w w' := by
  have HT := Lib.hid hT
  have HF := Lib.hid (fixed_any w hT hz)
  have HTP := Lib.hid (fun W (h1 : Tabs W) (h2 : 13 ≤ W.heap.size) => tokens_err h W h1 h2)
  have hk0 : ((k : Int) != 0) = true := by rcases tokensL_num h with rfl | rfl | rfl <;> decide
  have hp := err_place h
  clear hT h
  have hc : (((k : Int) == 1) = true) ∨ (((k : Int) == 1) = false ∧ decide (p1 ≥ 1) = true ∧ decide (p2 ≥ 1) = true) := by
    rcases hp with rfl | ⟨h1, h2, h3⟩
    · exact .inl rfl
    · exact .inr ⟨by simp; omega, decide_eq_true h2, decide_eq_true h3⟩
  clear hp
  have hA1 := cell_alloc_if
  have hA2 := frozen_alloc_if
  have hA3 := cell_set_if
  rcases hc with d1 | ⟨d1, d2, d3⟩
  all_goals (
    go_enter Tryz.func4, Tryz.ntmps4
    go_wp2_with (go_at_call 7; refine (HF.out).mono ?_)
    rintro e w1 ⟨rfl, hbl1⟩
    have hz1 := hbl1.size
    have HB1 := Lib.hid hbl1
    have HT1 := Lib.hid (tabs_below HT.out hz hbl1)
    clear hbl1
    go_wp2_with (go_at_call 8; refine (HTP.out _ HT1.out (by omega)).mono ?_)
    rintro e w2 ⟨rfl, hbl2⟩
    have hz2 := hbl2.size
    go_upto_region 4 with (fail)
    refine wp_world (fun W => PlB w2.heap.size p1 p2 W ∧ Hid (Below w1.heap.size w1 W)) ⟨⟨?_⟩, Lib.hid (hbl2.alloc hz2 _)⟩ ?_
    · exact heap_alloc_new w2 _
    clear hbl2
    rintro W3 ⟨hP, HB3⟩
    have hcp := cells_of_block hP.blk
    have hp0 := hcp.1 0
    have hp1 := hcp.1 1
    simp at hp0 hp1
    clear hcp hP
    go_wp2
    go_ret
    exact ⟨rfl, HB1.out.trans (HB3.out.mono (by omega))⟩)
end Go.Proofs.YteplbbjmbhgllaaGreatDoor
