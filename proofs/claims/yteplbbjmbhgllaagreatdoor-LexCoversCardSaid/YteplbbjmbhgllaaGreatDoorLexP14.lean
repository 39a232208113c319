/-
  The program's Word.
-/
import Derived.Test.YteplbbjmbhgllaaGreatDoorLexP13
namespace Go.Proofs.YteplbbjmbhgllaaGreatDoor
open Go.RowKit
set_option linter.unusedVariables false
set_option linter.unusedSimpArgs false

theorem words_eq : Lx.words = [[98, 114, 101, 97, 107], [99, 97, 115, 101], [99, 104, 97, 114], [99, 111, 110, 116, 105, 110, 117, 101], [100, 101, 102, 97, 117, 108, 116], [100, 111], [100, 111, 117, 98, 108, 101], [101, 108, 115, 101], [101, 120, 116, 101, 114, 110], [102, 111, 114], [103, 111, 116, 111], [105, 102], [105, 110, 116], [108, 111, 110, 103], [114, 101, 116, 117, 114, 110], [115, 104, 111, 114, 116], [115, 105, 103, 110, 101, 100], [115, 105, 122, 101, 111, 102], [115, 116, 114, 117, 99, 116], [115, 119, 105, 116, 99, 104], [117, 110, 105, 111, 110], [117, 110, 115, 105, 103, 110, 101, 100], [118, 111, 105, 100], [119, 104, 105, 108, 101]] := by decide +kernel
theorem ne_litW {s : ByteArray} {l : List UInt8} (h : s.data.toList ≠ l) : (s.toList == l) = false := by rw [Lib.toList_data]; simpa using h
theorem eq_litW {s : ByteArray} {l m : List UInt8} {b : Bool} (h : s.data.toList = l) (hb : (l == m) = b) : (s.toList == m) = b := by rw [Lib.toList_data, h]; exact hb
set_option maxRecDepth 100000 in
set_option maxHeartbeats 8000000 in
/-- The program's Word. -/
theorem word_any (s : ByteArray) (hs : s.size ≤ 1048576) (w : World) : Calls Tryz.prog 13 #[.string s] w fun e w' => e = .returned (.bool (decide (s.data.toList ∈ Lx.words))) ∧ w = w' := by
  by_cases hm : s.data.toList ∈ Lx.words
  · have HM := Lib.hid (decide_eq_true hm)
    rw [words_eq] at hm
    simp only [List.mem_cons, List.not_mem_nil, or_false] at hm
    rcases hm with h | h | h | h | h | h | h | h | h | h | h | h | h | h | h | h | h | h | h | h | h | h | h | h
    · skip
      have f0 := eq_litW (m := [98, 114, 101, 97, 107]) (b := true) h (by decide)
      clear h
      go_enter Tryz.func13, Tryz.ntmps13
      go_wp2
      go_ret
      exact ⟨by rw [HM.out]; rfl, rfl⟩
    · skip
      have f0 := eq_litW (m := [98, 114, 101, 97, 107]) (b := false) h (by decide)
      have f1 := eq_litW (m := [99, 97, 115, 101]) (b := true) h (by decide)
      clear h
      go_enter Tryz.func13, Tryz.ntmps13
      go_wp2
      go_ret
      exact ⟨by rw [HM.out]; rfl, rfl⟩
    · skip
      have f0 := eq_litW (m := [98, 114, 101, 97, 107]) (b := false) h (by decide)
      have f1 := eq_litW (m := [99, 97, 115, 101]) (b := false) h (by decide)
      have f2 := eq_litW (m := [99, 104, 97, 114]) (b := true) h (by decide)
      clear h
      go_enter Tryz.func13, Tryz.ntmps13
      go_wp2
      go_ret
      exact ⟨by rw [HM.out]; rfl, rfl⟩
    · skip
      have f0 := eq_litW (m := [98, 114, 101, 97, 107]) (b := false) h (by decide)
      have f1 := eq_litW (m := [99, 97, 115, 101]) (b := false) h (by decide)
      have f2 := eq_litW (m := [99, 104, 97, 114]) (b := false) h (by decide)
      have f3 := eq_litW (m := [99, 111, 110, 116, 105, 110, 117, 101]) (b := true) h (by decide)
      clear h
      go_enter Tryz.func13, Tryz.ntmps13
      go_wp2
      go_ret
      exact ⟨by rw [HM.out]; rfl, rfl⟩
    · skip
      have f0 := eq_litW (m := [98, 114, 101, 97, 107]) (b := false) h (by decide)
      have f1 := eq_litW (m := [99, 97, 115, 101]) (b := false) h (by decide)
      have f2 := eq_litW (m := [99, 104, 97, 114]) (b := false) h (by decide)
      have f3 := eq_litW (m := [99, 111, 110, 116, 105, 110, 117, 101]) (b := false) h (by decide)
      have f4 := eq_litW (m := [100, 101, 102, 97, 117, 108, 116]) (b := true) h (by decide)
      clear h
      go_enter Tryz.func13, Tryz.ntmps13
      go_wp2
      go_ret
      exact ⟨by rw [HM.out]; rfl, rfl⟩
    · skip
      have f0 := eq_litW (m := [98, 114, 101, 97, 107]) (b := false) h (by decide)
      have f1 := eq_litW (m := [99, 97, 115, 101]) (b := false) h (by decide)
      have f2 := eq_litW (m := [99, 104, 97, 114]) (b := false) h (by decide)
      have f3 := eq_litW (m := [99, 111, 110, 116, 105, 110, 117, 101]) (b := false) h (by decide)
      have f4 := eq_litW (m := [100, 101, 102, 97, 117, 108, 116]) (b := false) h (by decide)
      have f5 := eq_litW (m := [100, 111]) (b := true) h (by decide)
      clear h
      go_enter Tryz.func13, Tryz.ntmps13
      go_wp2
      go_ret
      exact ⟨by rw [HM.out]; rfl, rfl⟩
    · skip
      have f0 := eq_litW (m := [98, 114, 101, 97, 107]) (b := false) h (by decide)
      have f1 := eq_litW (m := [99, 97, 115, 101]) (b := false) h (by decide)
      have f2 := eq_litW (m := [99, 104, 97, 114]) (b := false) h (by decide)
      have f3 := eq_litW (m := [99, 111, 110, 116, 105, 110, 117, 101]) (b := false) h (by decide)
      have f4 := eq_litW (m := [100, 101, 102, 97, 117, 108, 116]) (b := false) h (by decide)
      have f5 := eq_litW (m := [100, 111]) (b := false) h (by decide)
      have f6 := eq_litW (m := [100, 111, 117, 98, 108, 101]) (b := true) h (by decide)
      clear h
      go_enter Tryz.func13, Tryz.ntmps13
      go_wp2
      go_ret
      exact ⟨by rw [HM.out]; rfl, rfl⟩
    · skip
      have f0 := eq_litW (m := [98, 114, 101, 97, 107]) (b := false) h (by decide)
      have f1 := eq_litW (m := [99, 97, 115, 101]) (b := false) h (by decide)
      have f2 := eq_litW (m := [99, 104, 97, 114]) (b := false) h (by decide)
      have f3 := eq_litW (m := [99, 111, 110, 116, 105, 110, 117, 101]) (b := false) h (by decide)
      have f4 := eq_litW (m := [100, 101, 102, 97, 117, 108, 116]) (b := false) h (by decide)
      have f5 := eq_litW (m := [100, 111]) (b := false) h (by decide)
      have f6 := eq_litW (m := [100, 111, 117, 98, 108, 101]) (b := false) h (by decide)
      have f7 := eq_litW (m := [101, 108, 115, 101]) (b := true) h (by decide)
      clear h
      go_enter Tryz.func13, Tryz.ntmps13
      go_wp2
      go_ret
      exact ⟨by rw [HM.out]; rfl, rfl⟩
    · skip
      have f0 := eq_litW (m := [98, 114, 101, 97, 107]) (b := false) h (by decide)
      have f1 := eq_litW (m := [99, 97, 115, 101]) (b := false) h (by decide)
      have f2 := eq_litW (m := [99, 104, 97, 114]) (b := false) h (by decide)
      have f3 := eq_litW (m := [99, 111, 110, 116, 105, 110, 117, 101]) (b := false) h (by decide)
      have f4 := eq_litW (m := [100, 101, 102, 97, 117, 108, 116]) (b := false) h (by decide)
      have f5 := eq_litW (m := [100, 111]) (b := false) h (by decide)
      have f6 := eq_litW (m := [100, 111, 117, 98, 108, 101]) (b := false) h (by decide)
      have f7 := eq_litW (m := [101, 108, 115, 101]) (b := false) h (by decide)
      have f8 := eq_litW (m := [101, 120, 116, 101, 114, 110]) (b := true) h (by decide)
      clear h
      go_enter Tryz.func13, Tryz.ntmps13
      go_wp2
      go_ret
      exact ⟨by rw [HM.out]; rfl, rfl⟩
    · skip
      have f0 := eq_litW (m := [98, 114, 101, 97, 107]) (b := false) h (by decide)
      have f1 := eq_litW (m := [99, 97, 115, 101]) (b := false) h (by decide)
      have f2 := eq_litW (m := [99, 104, 97, 114]) (b := false) h (by decide)
      have f3 := eq_litW (m := [99, 111, 110, 116, 105, 110, 117, 101]) (b := false) h (by decide)
      have f4 := eq_litW (m := [100, 101, 102, 97, 117, 108, 116]) (b := false) h (by decide)
      have f5 := eq_litW (m := [100, 111]) (b := false) h (by decide)
      have f6 := eq_litW (m := [100, 111, 117, 98, 108, 101]) (b := false) h (by decide)
      have f7 := eq_litW (m := [101, 108, 115, 101]) (b := false) h (by decide)
      have f8 := eq_litW (m := [101, 120, 116, 101, 114, 110]) (b := false) h (by decide)
      have f9 := eq_litW (m := [102, 111, 114]) (b := true) h (by decide)
      clear h
      go_enter Tryz.func13, Tryz.ntmps13
      go_wp2
      go_ret
      exact ⟨by rw [HM.out]; rfl, rfl⟩
    · skip
      have f0 := eq_litW (m := [98, 114, 101, 97, 107]) (b := false) h (by decide)
      have f1 := eq_litW (m := [99, 97, 115, 101]) (b := false) h (by decide)
      have f2 := eq_litW (m := [99, 104, 97, 114]) (b := false) h (by decide)
      have f3 := eq_litW (m := [99, 111, 110, 116, 105, 110, 117, 101]) (b := false) h (by decide)
      have f4 := eq_litW (m := [100, 101, 102, 97, 117, 108, 116]) (b := false) h (by decide)
      have f5 := eq_litW (m := [100, 111]) (b := false) h (by decide)
      have f6 := eq_litW (m := [100, 111, 117, 98, 108, 101]) (b := false) h (by decide)
      have f7 := eq_litW (m := [101, 108, 115, 101]) (b := false) h (by decide)
      have f8 := eq_litW (m := [101, 120, 116, 101, 114, 110]) (b := false) h (by decide)
      have f9 := eq_litW (m := [102, 111, 114]) (b := false) h (by decide)
      have f10 := eq_litW (m := [103, 111, 116, 111]) (b := true) h (by decide)
      clear h
      go_enter Tryz.func13, Tryz.ntmps13
      go_wp2
      go_ret
      exact ⟨by rw [HM.out]; rfl, rfl⟩
    · skip
      have f0 := eq_litW (m := [98, 114, 101, 97, 107]) (b := false) h (by decide)
      have f1 := eq_litW (m := [99, 97, 115, 101]) (b := false) h (by decide)
      have f2 := eq_litW (m := [99, 104, 97, 114]) (b := false) h (by decide)
      have f3 := eq_litW (m := [99, 111, 110, 116, 105, 110, 117, 101]) (b := false) h (by decide)
      have f4 := eq_litW (m := [100, 101, 102, 97, 117, 108, 116]) (b := false) h (by decide)
      have f5 := eq_litW (m := [100, 111]) (b := false) h (by decide)
      have f6 := eq_litW (m := [100, 111, 117, 98, 108, 101]) (b := false) h (by decide)
      have f7 := eq_litW (m := [101, 108, 115, 101]) (b := false) h (by decide)
      have f8 := eq_litW (m := [101, 120, 116, 101, 114, 110]) (b := false) h (by decide)
      have f9 := eq_litW (m := [102, 111, 114]) (b := false) h (by decide)
      have f10 := eq_litW (m := [103, 111, 116, 111]) (b := false) h (by decide)
      have f11 := eq_litW (m := [105, 102]) (b := true) h (by decide)
      clear h
      go_enter Tryz.func13, Tryz.ntmps13
      go_wp2
      go_ret
      exact ⟨by rw [HM.out]; rfl, rfl⟩
    · skip
      have f0 := eq_litW (m := [98, 114, 101, 97, 107]) (b := false) h (by decide)
      have f1 := eq_litW (m := [99, 97, 115, 101]) (b := false) h (by decide)
      have f2 := eq_litW (m := [99, 104, 97, 114]) (b := false) h (by decide)
      have f3 := eq_litW (m := [99, 111, 110, 116, 105, 110, 117, 101]) (b := false) h (by decide)
      have f4 := eq_litW (m := [100, 101, 102, 97, 117, 108, 116]) (b := false) h (by decide)
      have f5 := eq_litW (m := [100, 111]) (b := false) h (by decide)
      have f6 := eq_litW (m := [100, 111, 117, 98, 108, 101]) (b := false) h (by decide)
      have f7 := eq_litW (m := [101, 108, 115, 101]) (b := false) h (by decide)
      have f8 := eq_litW (m := [101, 120, 116, 101, 114, 110]) (b := false) h (by decide)
      have f9 := eq_litW (m := [102, 111, 114]) (b := false) h (by decide)
      have f10 := eq_litW (m := [103, 111, 116, 111]) (b := false) h (by decide)
      have f11 := eq_litW (m := [105, 102]) (b := false) h (by decide)
      have f12 := eq_litW (m := [105, 110, 116]) (b := true) h (by decide)
      clear h
      go_enter Tryz.func13, Tryz.ntmps13
      go_wp2
      go_ret
      exact ⟨by rw [HM.out]; rfl, rfl⟩
    · skip
      have f0 := eq_litW (m := [98, 114, 101, 97, 107]) (b := false) h (by decide)
      have f1 := eq_litW (m := [99, 97, 115, 101]) (b := false) h (by decide)
      have f2 := eq_litW (m := [99, 104, 97, 114]) (b := false) h (by decide)
      have f3 := eq_litW (m := [99, 111, 110, 116, 105, 110, 117, 101]) (b := false) h (by decide)
      have f4 := eq_litW (m := [100, 101, 102, 97, 117, 108, 116]) (b := false) h (by decide)
      have f5 := eq_litW (m := [100, 111]) (b := false) h (by decide)
      have f6 := eq_litW (m := [100, 111, 117, 98, 108, 101]) (b := false) h (by decide)
      have f7 := eq_litW (m := [101, 108, 115, 101]) (b := false) h (by decide)
      have f8 := eq_litW (m := [101, 120, 116, 101, 114, 110]) (b := false) h (by decide)
      have f9 := eq_litW (m := [102, 111, 114]) (b := false) h (by decide)
      have f10 := eq_litW (m := [103, 111, 116, 111]) (b := false) h (by decide)
      have f11 := eq_litW (m := [105, 102]) (b := false) h (by decide)
      have f12 := eq_litW (m := [105, 110, 116]) (b := false) h (by decide)
      have f13 := eq_litW (m := [108, 111, 110, 103]) (b := true) h (by decide)
      clear h
      go_enter Tryz.func13, Tryz.ntmps13
      go_wp2
      go_ret
      exact ⟨by rw [HM.out]; rfl, rfl⟩
    · skip
      have f0 := eq_litW (m := [98, 114, 101, 97, 107]) (b := false) h (by decide)
      have f1 := eq_litW (m := [99, 97, 115, 101]) (b := false) h (by decide)
      have f2 := eq_litW (m := [99, 104, 97, 114]) (b := false) h (by decide)
      have f3 := eq_litW (m := [99, 111, 110, 116, 105, 110, 117, 101]) (b := false) h (by decide)
      have f4 := eq_litW (m := [100, 101, 102, 97, 117, 108, 116]) (b := false) h (by decide)
      have f5 := eq_litW (m := [100, 111]) (b := false) h (by decide)
      have f6 := eq_litW (m := [100, 111, 117, 98, 108, 101]) (b := false) h (by decide)
      have f7 := eq_litW (m := [101, 108, 115, 101]) (b := false) h (by decide)
      have f8 := eq_litW (m := [101, 120, 116, 101, 114, 110]) (b := false) h (by decide)
      have f9 := eq_litW (m := [102, 111, 114]) (b := false) h (by decide)
      have f10 := eq_litW (m := [103, 111, 116, 111]) (b := false) h (by decide)
      have f11 := eq_litW (m := [105, 102]) (b := false) h (by decide)
      have f12 := eq_litW (m := [105, 110, 116]) (b := false) h (by decide)
      have f13 := eq_litW (m := [108, 111, 110, 103]) (b := false) h (by decide)
      have f14 := eq_litW (m := [114, 101, 116, 117, 114, 110]) (b := true) h (by decide)
      clear h
      go_enter Tryz.func13, Tryz.ntmps13
      go_wp2
      go_ret
      exact ⟨by rw [HM.out]; rfl, rfl⟩
    · skip
      have f0 := eq_litW (m := [98, 114, 101, 97, 107]) (b := false) h (by decide)
      have f1 := eq_litW (m := [99, 97, 115, 101]) (b := false) h (by decide)
      have f2 := eq_litW (m := [99, 104, 97, 114]) (b := false) h (by decide)
      have f3 := eq_litW (m := [99, 111, 110, 116, 105, 110, 117, 101]) (b := false) h (by decide)
      have f4 := eq_litW (m := [100, 101, 102, 97, 117, 108, 116]) (b := false) h (by decide)
      have f5 := eq_litW (m := [100, 111]) (b := false) h (by decide)
      have f6 := eq_litW (m := [100, 111, 117, 98, 108, 101]) (b := false) h (by decide)
      have f7 := eq_litW (m := [101, 108, 115, 101]) (b := false) h (by decide)
      have f8 := eq_litW (m := [101, 120, 116, 101, 114, 110]) (b := false) h (by decide)
      have f9 := eq_litW (m := [102, 111, 114]) (b := false) h (by decide)
      have f10 := eq_litW (m := [103, 111, 116, 111]) (b := false) h (by decide)
      have f11 := eq_litW (m := [105, 102]) (b := false) h (by decide)
      have f12 := eq_litW (m := [105, 110, 116]) (b := false) h (by decide)
      have f13 := eq_litW (m := [108, 111, 110, 103]) (b := false) h (by decide)
      have f14 := eq_litW (m := [114, 101, 116, 117, 114, 110]) (b := false) h (by decide)
      have f15 := eq_litW (m := [115, 104, 111, 114, 116]) (b := true) h (by decide)
      clear h
      go_enter Tryz.func13, Tryz.ntmps13
      go_wp2
      go_ret
      exact ⟨by rw [HM.out]; rfl, rfl⟩
    · skip
      have f0 := eq_litW (m := [98, 114, 101, 97, 107]) (b := false) h (by decide)
      have f1 := eq_litW (m := [99, 97, 115, 101]) (b := false) h (by decide)
      have f2 := eq_litW (m := [99, 104, 97, 114]) (b := false) h (by decide)
      have f3 := eq_litW (m := [99, 111, 110, 116, 105, 110, 117, 101]) (b := false) h (by decide)
      have f4 := eq_litW (m := [100, 101, 102, 97, 117, 108, 116]) (b := false) h (by decide)
      have f5 := eq_litW (m := [100, 111]) (b := false) h (by decide)
      have f6 := eq_litW (m := [100, 111, 117, 98, 108, 101]) (b := false) h (by decide)
      have f7 := eq_litW (m := [101, 108, 115, 101]) (b := false) h (by decide)
      have f8 := eq_litW (m := [101, 120, 116, 101, 114, 110]) (b := false) h (by decide)
      have f9 := eq_litW (m := [102, 111, 114]) (b := false) h (by decide)
      have f10 := eq_litW (m := [103, 111, 116, 111]) (b := false) h (by decide)
      have f11 := eq_litW (m := [105, 102]) (b := false) h (by decide)
      have f12 := eq_litW (m := [105, 110, 116]) (b := false) h (by decide)
      have f13 := eq_litW (m := [108, 111, 110, 103]) (b := false) h (by decide)
      have f14 := eq_litW (m := [114, 101, 116, 117, 114, 110]) (b := false) h (by decide)
      have f15 := eq_litW (m := [115, 104, 111, 114, 116]) (b := false) h (by decide)
      have f16 := eq_litW (m := [115, 105, 103, 110, 101, 100]) (b := true) h (by decide)
      clear h
      go_enter Tryz.func13, Tryz.ntmps13
      go_wp2
      go_ret
      exact ⟨by rw [HM.out]; rfl, rfl⟩
    · skip
      have f0 := eq_litW (m := [98, 114, 101, 97, 107]) (b := false) h (by decide)
      have f1 := eq_litW (m := [99, 97, 115, 101]) (b := false) h (by decide)
      have f2 := eq_litW (m := [99, 104, 97, 114]) (b := false) h (by decide)
      have f3 := eq_litW (m := [99, 111, 110, 116, 105, 110, 117, 101]) (b := false) h (by decide)
      have f4 := eq_litW (m := [100, 101, 102, 97, 117, 108, 116]) (b := false) h (by decide)
      have f5 := eq_litW (m := [100, 111]) (b := false) h (by decide)
      have f6 := eq_litW (m := [100, 111, 117, 98, 108, 101]) (b := false) h (by decide)
      have f7 := eq_litW (m := [101, 108, 115, 101]) (b := false) h (by decide)
      have f8 := eq_litW (m := [101, 120, 116, 101, 114, 110]) (b := false) h (by decide)
      have f9 := eq_litW (m := [102, 111, 114]) (b := false) h (by decide)
      have f10 := eq_litW (m := [103, 111, 116, 111]) (b := false) h (by decide)
      have f11 := eq_litW (m := [105, 102]) (b := false) h (by decide)
      have f12 := eq_litW (m := [105, 110, 116]) (b := false) h (by decide)
      have f13 := eq_litW (m := [108, 111, 110, 103]) (b := false) h (by decide)
      have f14 := eq_litW (m := [114, 101, 116, 117, 114, 110]) (b := false) h (by decide)
      have f15 := eq_litW (m := [115, 104, 111, 114, 116]) (b := false) h (by decide)
      have f16 := eq_litW (m := [115, 105, 103, 110, 101, 100]) (b := false) h (by decide)
      have f17 := eq_litW (m := [115, 105, 122, 101, 111, 102]) (b := true) h (by decide)
      clear h
      go_enter Tryz.func13, Tryz.ntmps13
      go_wp2
      go_ret
      exact ⟨by rw [HM.out]; rfl, rfl⟩
    · skip
      have f0 := eq_litW (m := [98, 114, 101, 97, 107]) (b := false) h (by decide)
      have f1 := eq_litW (m := [99, 97, 115, 101]) (b := false) h (by decide)
      have f2 := eq_litW (m := [99, 104, 97, 114]) (b := false) h (by decide)
      have f3 := eq_litW (m := [99, 111, 110, 116, 105, 110, 117, 101]) (b := false) h (by decide)
      have f4 := eq_litW (m := [100, 101, 102, 97, 117, 108, 116]) (b := false) h (by decide)
      have f5 := eq_litW (m := [100, 111]) (b := false) h (by decide)
      have f6 := eq_litW (m := [100, 111, 117, 98, 108, 101]) (b := false) h (by decide)
      have f7 := eq_litW (m := [101, 108, 115, 101]) (b := false) h (by decide)
      have f8 := eq_litW (m := [101, 120, 116, 101, 114, 110]) (b := false) h (by decide)
      have f9 := eq_litW (m := [102, 111, 114]) (b := false) h (by decide)
      have f10 := eq_litW (m := [103, 111, 116, 111]) (b := false) h (by decide)
      have f11 := eq_litW (m := [105, 102]) (b := false) h (by decide)
      have f12 := eq_litW (m := [105, 110, 116]) (b := false) h (by decide)
      have f13 := eq_litW (m := [108, 111, 110, 103]) (b := false) h (by decide)
      have f14 := eq_litW (m := [114, 101, 116, 117, 114, 110]) (b := false) h (by decide)
      have f15 := eq_litW (m := [115, 104, 111, 114, 116]) (b := false) h (by decide)
      have f16 := eq_litW (m := [115, 105, 103, 110, 101, 100]) (b := false) h (by decide)
      have f17 := eq_litW (m := [115, 105, 122, 101, 111, 102]) (b := false) h (by decide)
      have f18 := eq_litW (m := [115, 116, 114, 117, 99, 116]) (b := true) h (by decide)
      clear h
      go_enter Tryz.func13, Tryz.ntmps13
      go_wp2
      go_ret
      exact ⟨by rw [HM.out]; rfl, rfl⟩
    · skip
      have f0 := eq_litW (m := [98, 114, 101, 97, 107]) (b := false) h (by decide)
      have f1 := eq_litW (m := [99, 97, 115, 101]) (b := false) h (by decide)
      have f2 := eq_litW (m := [99, 104, 97, 114]) (b := false) h (by decide)
      have f3 := eq_litW (m := [99, 111, 110, 116, 105, 110, 117, 101]) (b := false) h (by decide)
      have f4 := eq_litW (m := [100, 101, 102, 97, 117, 108, 116]) (b := false) h (by decide)
      have f5 := eq_litW (m := [100, 111]) (b := false) h (by decide)
      have f6 := eq_litW (m := [100, 111, 117, 98, 108, 101]) (b := false) h (by decide)
      have f7 := eq_litW (m := [101, 108, 115, 101]) (b := false) h (by decide)
      have f8 := eq_litW (m := [101, 120, 116, 101, 114, 110]) (b := false) h (by decide)
      have f9 := eq_litW (m := [102, 111, 114]) (b := false) h (by decide)
      have f10 := eq_litW (m := [103, 111, 116, 111]) (b := false) h (by decide)
      have f11 := eq_litW (m := [105, 102]) (b := false) h (by decide)
      have f12 := eq_litW (m := [105, 110, 116]) (b := false) h (by decide)
      have f13 := eq_litW (m := [108, 111, 110, 103]) (b := false) h (by decide)
      have f14 := eq_litW (m := [114, 101, 116, 117, 114, 110]) (b := false) h (by decide)
      have f15 := eq_litW (m := [115, 104, 111, 114, 116]) (b := false) h (by decide)
      have f16 := eq_litW (m := [115, 105, 103, 110, 101, 100]) (b := false) h (by decide)
      have f17 := eq_litW (m := [115, 105, 122, 101, 111, 102]) (b := false) h (by decide)
      have f18 := eq_litW (m := [115, 116, 114, 117, 99, 116]) (b := false) h (by decide)
      have f19 := eq_litW (m := [115, 119, 105, 116, 99, 104]) (b := true) h (by decide)
      clear h
      go_enter Tryz.func13, Tryz.ntmps13
      go_wp2
      go_ret
      exact ⟨by rw [HM.out]; rfl, rfl⟩
    · skip
      have f0 := eq_litW (m := [98, 114, 101, 97, 107]) (b := false) h (by decide)
      have f1 := eq_litW (m := [99, 97, 115, 101]) (b := false) h (by decide)
      have f2 := eq_litW (m := [99, 104, 97, 114]) (b := false) h (by decide)
      have f3 := eq_litW (m := [99, 111, 110, 116, 105, 110, 117, 101]) (b := false) h (by decide)
      have f4 := eq_litW (m := [100, 101, 102, 97, 117, 108, 116]) (b := false) h (by decide)
      have f5 := eq_litW (m := [100, 111]) (b := false) h (by decide)
      have f6 := eq_litW (m := [100, 111, 117, 98, 108, 101]) (b := false) h (by decide)
      have f7 := eq_litW (m := [101, 108, 115, 101]) (b := false) h (by decide)
      have f8 := eq_litW (m := [101, 120, 116, 101, 114, 110]) (b := false) h (by decide)
      have f9 := eq_litW (m := [102, 111, 114]) (b := false) h (by decide)
      have f10 := eq_litW (m := [103, 111, 116, 111]) (b := false) h (by decide)
      have f11 := eq_litW (m := [105, 102]) (b := false) h (by decide)
      have f12 := eq_litW (m := [105, 110, 116]) (b := false) h (by decide)
      have f13 := eq_litW (m := [108, 111, 110, 103]) (b := false) h (by decide)
      have f14 := eq_litW (m := [114, 101, 116, 117, 114, 110]) (b := false) h (by decide)
      have f15 := eq_litW (m := [115, 104, 111, 114, 116]) (b := false) h (by decide)
      have f16 := eq_litW (m := [115, 105, 103, 110, 101, 100]) (b := false) h (by decide)
      have f17 := eq_litW (m := [115, 105, 122, 101, 111, 102]) (b := false) h (by decide)
      have f18 := eq_litW (m := [115, 116, 114, 117, 99, 116]) (b := false) h (by decide)
      have f19 := eq_litW (m := [115, 119, 105, 116, 99, 104]) (b := false) h (by decide)
      have f20 := eq_litW (m := [117, 110, 105, 111, 110]) (b := true) h (by decide)
      clear h
      go_enter Tryz.func13, Tryz.ntmps13
      go_wp2
      go_ret
      exact ⟨by rw [HM.out]; rfl, rfl⟩
    · skip
      have f0 := eq_litW (m := [98, 114, 101, 97, 107]) (b := false) h (by decide)
      have f1 := eq_litW (m := [99, 97, 115, 101]) (b := false) h (by decide)
      have f2 := eq_litW (m := [99, 104, 97, 114]) (b := false) h (by decide)
      have f3 := eq_litW (m := [99, 111, 110, 116, 105, 110, 117, 101]) (b := false) h (by decide)
      have f4 := eq_litW (m := [100, 101, 102, 97, 117, 108, 116]) (b := false) h (by decide)
      have f5 := eq_litW (m := [100, 111]) (b := false) h (by decide)
      have f6 := eq_litW (m := [100, 111, 117, 98, 108, 101]) (b := false) h (by decide)
      have f7 := eq_litW (m := [101, 108, 115, 101]) (b := false) h (by decide)
      have f8 := eq_litW (m := [101, 120, 116, 101, 114, 110]) (b := false) h (by decide)
      have f9 := eq_litW (m := [102, 111, 114]) (b := false) h (by decide)
      have f10 := eq_litW (m := [103, 111, 116, 111]) (b := false) h (by decide)
      have f11 := eq_litW (m := [105, 102]) (b := false) h (by decide)
      have f12 := eq_litW (m := [105, 110, 116]) (b := false) h (by decide)
      have f13 := eq_litW (m := [108, 111, 110, 103]) (b := false) h (by decide)
      have f14 := eq_litW (m := [114, 101, 116, 117, 114, 110]) (b := false) h (by decide)
      have f15 := eq_litW (m := [115, 104, 111, 114, 116]) (b := false) h (by decide)
      have f16 := eq_litW (m := [115, 105, 103, 110, 101, 100]) (b := false) h (by decide)
      have f17 := eq_litW (m := [115, 105, 122, 101, 111, 102]) (b := false) h (by decide)
      have f18 := eq_litW (m := [115, 116, 114, 117, 99, 116]) (b := false) h (by decide)
      have f19 := eq_litW (m := [115, 119, 105, 116, 99, 104]) (b := false) h (by decide)
      have f20 := eq_litW (m := [117, 110, 105, 111, 110]) (b := false) h (by decide)
      have f21 := eq_litW (m := [117, 110, 115, 105, 103, 110, 101, 100]) (b := true) h (by decide)
      clear h
      go_enter Tryz.func13, Tryz.ntmps13
      go_wp2
      go_ret
      exact ⟨by rw [HM.out]; rfl, rfl⟩
    · skip
      have f0 := eq_litW (m := [98, 114, 101, 97, 107]) (b := false) h (by decide)
      have f1 := eq_litW (m := [99, 97, 115, 101]) (b := false) h (by decide)
      have f2 := eq_litW (m := [99, 104, 97, 114]) (b := false) h (by decide)
      have f3 := eq_litW (m := [99, 111, 110, 116, 105, 110, 117, 101]) (b := false) h (by decide)
      have f4 := eq_litW (m := [100, 101, 102, 97, 117, 108, 116]) (b := false) h (by decide)
      have f5 := eq_litW (m := [100, 111]) (b := false) h (by decide)
      have f6 := eq_litW (m := [100, 111, 117, 98, 108, 101]) (b := false) h (by decide)
      have f7 := eq_litW (m := [101, 108, 115, 101]) (b := false) h (by decide)
      have f8 := eq_litW (m := [101, 120, 116, 101, 114, 110]) (b := false) h (by decide)
      have f9 := eq_litW (m := [102, 111, 114]) (b := false) h (by decide)
      have f10 := eq_litW (m := [103, 111, 116, 111]) (b := false) h (by decide)
      have f11 := eq_litW (m := [105, 102]) (b := false) h (by decide)
      have f12 := eq_litW (m := [105, 110, 116]) (b := false) h (by decide)
      have f13 := eq_litW (m := [108, 111, 110, 103]) (b := false) h (by decide)
      have f14 := eq_litW (m := [114, 101, 116, 117, 114, 110]) (b := false) h (by decide)
      have f15 := eq_litW (m := [115, 104, 111, 114, 116]) (b := false) h (by decide)
      have f16 := eq_litW (m := [115, 105, 103, 110, 101, 100]) (b := false) h (by decide)
      have f17 := eq_litW (m := [115, 105, 122, 101, 111, 102]) (b := false) h (by decide)
      have f18 := eq_litW (m := [115, 116, 114, 117, 99, 116]) (b := false) h (by decide)
      have f19 := eq_litW (m := [115, 119, 105, 116, 99, 104]) (b := false) h (by decide)
      have f20 := eq_litW (m := [117, 110, 105, 111, 110]) (b := false) h (by decide)
      have f21 := eq_litW (m := [117, 110, 115, 105, 103, 110, 101, 100]) (b := false) h (by decide)
      have f22 := eq_litW (m := [118, 111, 105, 100]) (b := true) h (by decide)
      clear h
      go_enter Tryz.func13, Tryz.ntmps13
      go_wp2
      go_ret
      exact ⟨by rw [HM.out]; rfl, rfl⟩
    · skip
      have f0 := eq_litW (m := [98, 114, 101, 97, 107]) (b := false) h (by decide)
      have f1 := eq_litW (m := [99, 97, 115, 101]) (b := false) h (by decide)
      have f2 := eq_litW (m := [99, 104, 97, 114]) (b := false) h (by decide)
      have f3 := eq_litW (m := [99, 111, 110, 116, 105, 110, 117, 101]) (b := false) h (by decide)
      have f4 := eq_litW (m := [100, 101, 102, 97, 117, 108, 116]) (b := false) h (by decide)
      have f5 := eq_litW (m := [100, 111]) (b := false) h (by decide)
      have f6 := eq_litW (m := [100, 111, 117, 98, 108, 101]) (b := false) h (by decide)
      have f7 := eq_litW (m := [101, 108, 115, 101]) (b := false) h (by decide)
      have f8 := eq_litW (m := [101, 120, 116, 101, 114, 110]) (b := false) h (by decide)
      have f9 := eq_litW (m := [102, 111, 114]) (b := false) h (by decide)
      have f10 := eq_litW (m := [103, 111, 116, 111]) (b := false) h (by decide)
      have f11 := eq_litW (m := [105, 102]) (b := false) h (by decide)
      have f12 := eq_litW (m := [105, 110, 116]) (b := false) h (by decide)
      have f13 := eq_litW (m := [108, 111, 110, 103]) (b := false) h (by decide)
      have f14 := eq_litW (m := [114, 101, 116, 117, 114, 110]) (b := false) h (by decide)
      have f15 := eq_litW (m := [115, 104, 111, 114, 116]) (b := false) h (by decide)
      have f16 := eq_litW (m := [115, 105, 103, 110, 101, 100]) (b := false) h (by decide)
      have f17 := eq_litW (m := [115, 105, 122, 101, 111, 102]) (b := false) h (by decide)
      have f18 := eq_litW (m := [115, 116, 114, 117, 99, 116]) (b := false) h (by decide)
      have f19 := eq_litW (m := [115, 119, 105, 116, 99, 104]) (b := false) h (by decide)
      have f20 := eq_litW (m := [117, 110, 105, 111, 110]) (b := false) h (by decide)
      have f21 := eq_litW (m := [117, 110, 115, 105, 103, 110, 101, 100]) (b := false) h (by decide)
      have f22 := eq_litW (m := [118, 111, 105, 100]) (b := false) h (by decide)
      have f23 := eq_litW (m := [119, 104, 105, 108, 101]) (b := true) h (by decide)
      clear h
      go_enter Tryz.func13, Tryz.ntmps13
      go_wp2
      go_ret
      exact ⟨by rw [HM.out]; rfl, rfl⟩
  · have HM := Lib.hid (decide_eq_false hm)
    rw [words_eq] at hm
    have f0 := ne_litW (s := s) (l := [98, 114, 101, 97, 107]) (fun h => hm (by rw [h]; decide))
    have f1 := ne_litW (s := s) (l := [99, 97, 115, 101]) (fun h => hm (by rw [h]; decide))
    have f2 := ne_litW (s := s) (l := [99, 104, 97, 114]) (fun h => hm (by rw [h]; decide))
    have f3 := ne_litW (s := s) (l := [99, 111, 110, 116, 105, 110, 117, 101]) (fun h => hm (by rw [h]; decide))
    have f4 := ne_litW (s := s) (l := [100, 101, 102, 97, 117, 108, 116]) (fun h => hm (by rw [h]; decide))
    have f5 := ne_litW (s := s) (l := [100, 111]) (fun h => hm (by rw [h]; decide))
    have f6 := ne_litW (s := s) (l := [100, 111, 117, 98, 108, 101]) (fun h => hm (by rw [h]; decide))
    have f7 := ne_litW (s := s) (l := [101, 108, 115, 101]) (fun h => hm (by rw [h]; decide))
    have f8 := ne_litW (s := s) (l := [101, 120, 116, 101, 114, 110]) (fun h => hm (by rw [h]; decide))
    have f9 := ne_litW (s := s) (l := [102, 111, 114]) (fun h => hm (by rw [h]; decide))
    have f10 := ne_litW (s := s) (l := [103, 111, 116, 111]) (fun h => hm (by rw [h]; decide))
    have f11 := ne_litW (s := s) (l := [105, 102]) (fun h => hm (by rw [h]; decide))
    have f12 := ne_litW (s := s) (l := [105, 110, 116]) (fun h => hm (by rw [h]; decide))
    have f13 := ne_litW (s := s) (l := [108, 111, 110, 103]) (fun h => hm (by rw [h]; decide))
    have f14 := ne_litW (s := s) (l := [114, 101, 116, 117, 114, 110]) (fun h => hm (by rw [h]; decide))
    have f15 := ne_litW (s := s) (l := [115, 104, 111, 114, 116]) (fun h => hm (by rw [h]; decide))
    have f16 := ne_litW (s := s) (l := [115, 105, 103, 110, 101, 100]) (fun h => hm (by rw [h]; decide))
    have f17 := ne_litW (s := s) (l := [115, 105, 122, 101, 111, 102]) (fun h => hm (by rw [h]; decide))
    have f18 := ne_litW (s := s) (l := [115, 116, 114, 117, 99, 116]) (fun h => hm (by rw [h]; decide))
    have f19 := ne_litW (s := s) (l := [115, 119, 105, 116, 99, 104]) (fun h => hm (by rw [h]; decide))
    have f20 := ne_litW (s := s) (l := [117, 110, 105, 111, 110]) (fun h => hm (by rw [h]; decide))
    have f21 := ne_litW (s := s) (l := [117, 110, 115, 105, 103, 110, 101, 100]) (fun h => hm (by rw [h]; decide))
    have f22 := ne_litW (s := s) (l := [118, 111, 105, 100]) (fun h => hm (by rw [h]; decide))
    have f23 := ne_litW (s := s) (l := [119, 104, 105, 108, 101]) (fun h => hm (by rw [h]; decide))
    clear hm
    go_enter Tryz.func13, Tryz.ntmps13
    go_wp2
    go_ret
    exact ⟨by rw [HM.out]; rfl, rfl⟩
end Go.Proofs.YteplbbjmbhgllaaGreatDoor
