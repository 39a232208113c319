/-
  The program's Sign.
  The program's sign: takes the longest sign.
-/
import Derived.Test.YteplbbjmbhgllaaGreatDoorLexP13
namespace Go.Proofs.YteplbbjmbhgllaaGreatDoor
open Go.RowKit
set_option linter.unusedVariables false
set_option linter.unusedSimpArgs false

theorem signs_eq : (Lx.signs3 ++ Lx.signs2) = [[60, 60, 61], [62, 62, 61], [43, 43], [45, 45], [45, 62], [60, 60], [62, 62], [60, 61], [62, 61], [61, 61], [33, 61], [38, 38], [124, 124], [43, 61], [45, 61], [42, 61], [47, 61], [37, 61], [38, 61], [124, 61], [94, 61]] := by decide +kernel
theorem ne_litS {s : ByteArray} {l : List UInt8} (h : s.data.toList ≠ l) : (s.toList == l) = false := by rw [Lib.toList_data]; simpa using h
theorem eq_litS {s : ByteArray} {l m : List UInt8} {b : Bool} (h : s.data.toList = l) (hb : (l == m) = b) : (s.toList == m) = b := by rw [Lib.toList_data, h]; exact hb
/-- A sign? -/
def isSgn (l : List UInt8) : Bool := decide (l ∈ Lx.signs3 ++ Lx.signs2) || (match l with
  | [c] => decide (c ∈ Lx.signs1)
  | _ => false)
def sgnC : ByteArray := ⟨#[43, 45, 42, 47, 37, 38, 124, 94, 126, 33, 60, 62, 61, 63, 58, 59, 44, 46, 40, 41, 91, 93, 123, 125]⟩
theorem sgnC_eq : sgnC.data.toList = Lx.signs1 := by decide +kernel
set_option maxRecDepth 100000 in
set_option maxHeartbeats 8000000 in
/-- The program's Sign. -/
theorem sign_any (s : ByteArray) (hs : s.size ≤ 1048576) (w : World) : Calls Tryz.prog 14 #[.string s] w fun e w' => e = .returned (.bool (isSgn s.data.toList)) ∧ w = w' := by
  by_cases hm : s.data.toList ∈ Lx.signs3 ++ Lx.signs2
  · have HM : Hid (isSgn s.data.toList = true) := Lib.hid (by unfold isSgn; rw [decide_eq_true hm]; rfl)
    rw [signs_eq] at hm
    simp only [List.mem_cons, List.not_mem_nil, or_false] at hm
    rcases hm with h | h | h | h | h | h | h | h | h | h | h | h | h | h | h | h | h | h | h | h | h
    · skip
      have f0 := eq_litS (m := [60, 60, 61]) (b := true) h (by decide)
      clear h
      go_enter Tryz.func14, Tryz.ntmps14
      go_wp2
      go_ret
      exact ⟨by rw [HM.out]; rfl, rfl⟩
    · skip
      have f0 := eq_litS (m := [60, 60, 61]) (b := false) h (by decide)
      have f1 := eq_litS (m := [62, 62, 61]) (b := true) h (by decide)
      clear h
      go_enter Tryz.func14, Tryz.ntmps14
      go_wp2
      go_ret
      exact ⟨by rw [HM.out]; rfl, rfl⟩
    · skip
      have f0 := eq_litS (m := [60, 60, 61]) (b := false) h (by decide)
      have f1 := eq_litS (m := [62, 62, 61]) (b := false) h (by decide)
      have f2 := eq_litS (m := [43, 43]) (b := true) h (by decide)
      clear h
      go_enter Tryz.func14, Tryz.ntmps14
      go_wp2
      go_ret
      exact ⟨by rw [HM.out]; rfl, rfl⟩
    · skip
      have f0 := eq_litS (m := [60, 60, 61]) (b := false) h (by decide)
      have f1 := eq_litS (m := [62, 62, 61]) (b := false) h (by decide)
      have f2 := eq_litS (m := [43, 43]) (b := false) h (by decide)
      have f3 := eq_litS (m := [45, 45]) (b := true) h (by decide)
      clear h
      go_enter Tryz.func14, Tryz.ntmps14
      go_wp2
      go_ret
      exact ⟨by rw [HM.out]; rfl, rfl⟩
    · skip
      have f0 := eq_litS (m := [60, 60, 61]) (b := false) h (by decide)
      have f1 := eq_litS (m := [62, 62, 61]) (b := false) h (by decide)
      have f2 := eq_litS (m := [43, 43]) (b := false) h (by decide)
      have f3 := eq_litS (m := [45, 45]) (b := false) h (by decide)
      have f4 := eq_litS (m := [45, 62]) (b := true) h (by decide)
      clear h
      go_enter Tryz.func14, Tryz.ntmps14
      go_wp2
      go_ret
      exact ⟨by rw [HM.out]; rfl, rfl⟩
    · skip
      have f0 := eq_litS (m := [60, 60, 61]) (b := false) h (by decide)
      have f1 := eq_litS (m := [62, 62, 61]) (b := false) h (by decide)
      have f2 := eq_litS (m := [43, 43]) (b := false) h (by decide)
      have f3 := eq_litS (m := [45, 45]) (b := false) h (by decide)
      have f4 := eq_litS (m := [45, 62]) (b := false) h (by decide)
      have f5 := eq_litS (m := [60, 60]) (b := true) h (by decide)
      clear h
      go_enter Tryz.func14, Tryz.ntmps14
      go_wp2
      go_ret
      exact ⟨by rw [HM.out]; rfl, rfl⟩
    · skip
      have f0 := eq_litS (m := [60, 60, 61]) (b := false) h (by decide)
      have f1 := eq_litS (m := [62, 62, 61]) (b := false) h (by decide)
      have f2 := eq_litS (m := [43, 43]) (b := false) h (by decide)
      have f3 := eq_litS (m := [45, 45]) (b := false) h (by decide)
      have f4 := eq_litS (m := [45, 62]) (b := false) h (by decide)
      have f5 := eq_litS (m := [60, 60]) (b := false) h (by decide)
      have f6 := eq_litS (m := [62, 62]) (b := true) h (by decide)
      clear h
      go_enter Tryz.func14, Tryz.ntmps14
      go_wp2
      go_ret
      exact ⟨by rw [HM.out]; rfl, rfl⟩
    · skip
      have f0 := eq_litS (m := [60, 60, 61]) (b := false) h (by decide)
      have f1 := eq_litS (m := [62, 62, 61]) (b := false) h (by decide)
      have f2 := eq_litS (m := [43, 43]) (b := false) h (by decide)
      have f3 := eq_litS (m := [45, 45]) (b := false) h (by decide)
      have f4 := eq_litS (m := [45, 62]) (b := false) h (by decide)
      have f5 := eq_litS (m := [60, 60]) (b := false) h (by decide)
      have f6 := eq_litS (m := [62, 62]) (b := false) h (by decide)
      have f7 := eq_litS (m := [60, 61]) (b := true) h (by decide)
      clear h
      go_enter Tryz.func14, Tryz.ntmps14
      go_wp2
      go_ret
      exact ⟨by rw [HM.out]; rfl, rfl⟩
    · skip
      have f0 := eq_litS (m := [60, 60, 61]) (b := false) h (by decide)
      have f1 := eq_litS (m := [62, 62, 61]) (b := false) h (by decide)
      have f2 := eq_litS (m := [43, 43]) (b := false) h (by decide)
      have f3 := eq_litS (m := [45, 45]) (b := false) h (by decide)
      have f4 := eq_litS (m := [45, 62]) (b := false) h (by decide)
      have f5 := eq_litS (m := [60, 60]) (b := false) h (by decide)
      have f6 := eq_litS (m := [62, 62]) (b := false) h (by decide)
      have f7 := eq_litS (m := [60, 61]) (b := false) h (by decide)
      have f8 := eq_litS (m := [62, 61]) (b := true) h (by decide)
      clear h
      go_enter Tryz.func14, Tryz.ntmps14
      go_wp2
      go_ret
      exact ⟨by rw [HM.out]; rfl, rfl⟩
    · skip
      have f0 := eq_litS (m := [60, 60, 61]) (b := false) h (by decide)
      have f1 := eq_litS (m := [62, 62, 61]) (b := false) h (by decide)
      have f2 := eq_litS (m := [43, 43]) (b := false) h (by decide)
      have f3 := eq_litS (m := [45, 45]) (b := false) h (by decide)
      have f4 := eq_litS (m := [45, 62]) (b := false) h (by decide)
      have f5 := eq_litS (m := [60, 60]) (b := false) h (by decide)
      have f6 := eq_litS (m := [62, 62]) (b := false) h (by decide)
      have f7 := eq_litS (m := [60, 61]) (b := false) h (by decide)
      have f8 := eq_litS (m := [62, 61]) (b := false) h (by decide)
      have f9 := eq_litS (m := [61, 61]) (b := true) h (by decide)
      clear h
      go_enter Tryz.func14, Tryz.ntmps14
      go_wp2
      go_ret
      exact ⟨by rw [HM.out]; rfl, rfl⟩
    · skip
      have f0 := eq_litS (m := [60, 60, 61]) (b := false) h (by decide)
      have f1 := eq_litS (m := [62, 62, 61]) (b := false) h (by decide)
      have f2 := eq_litS (m := [43, 43]) (b := false) h (by decide)
      have f3 := eq_litS (m := [45, 45]) (b := false) h (by decide)
      have f4 := eq_litS (m := [45, 62]) (b := false) h (by decide)
      have f5 := eq_litS (m := [60, 60]) (b := false) h (by decide)
      have f6 := eq_litS (m := [62, 62]) (b := false) h (by decide)
      have f7 := eq_litS (m := [60, 61]) (b := false) h (by decide)
      have f8 := eq_litS (m := [62, 61]) (b := false) h (by decide)
      have f9 := eq_litS (m := [61, 61]) (b := false) h (by decide)
      have f10 := eq_litS (m := [33, 61]) (b := true) h (by decide)
      clear h
      go_enter Tryz.func14, Tryz.ntmps14
      go_wp2
      go_ret
      exact ⟨by rw [HM.out]; rfl, rfl⟩
    · skip
      have f0 := eq_litS (m := [60, 60, 61]) (b := false) h (by decide)
      have f1 := eq_litS (m := [62, 62, 61]) (b := false) h (by decide)
      have f2 := eq_litS (m := [43, 43]) (b := false) h (by decide)
      have f3 := eq_litS (m := [45, 45]) (b := false) h (by decide)
      have f4 := eq_litS (m := [45, 62]) (b := false) h (by decide)
      have f5 := eq_litS (m := [60, 60]) (b := false) h (by decide)
      have f6 := eq_litS (m := [62, 62]) (b := false) h (by decide)
      have f7 := eq_litS (m := [60, 61]) (b := false) h (by decide)
      have f8 := eq_litS (m := [62, 61]) (b := false) h (by decide)
      have f9 := eq_litS (m := [61, 61]) (b := false) h (by decide)
      have f10 := eq_litS (m := [33, 61]) (b := false) h (by decide)
      have f11 := eq_litS (m := [38, 38]) (b := true) h (by decide)
      clear h
      go_enter Tryz.func14, Tryz.ntmps14
      go_wp2
      go_ret
      exact ⟨by rw [HM.out]; rfl, rfl⟩
    · skip
      have f0 := eq_litS (m := [60, 60, 61]) (b := false) h (by decide)
      have f1 := eq_litS (m := [62, 62, 61]) (b := false) h (by decide)
      have f2 := eq_litS (m := [43, 43]) (b := false) h (by decide)
      have f3 := eq_litS (m := [45, 45]) (b := false) h (by decide)
      have f4 := eq_litS (m := [45, 62]) (b := false) h (by decide)
      have f5 := eq_litS (m := [60, 60]) (b := false) h (by decide)
      have f6 := eq_litS (m := [62, 62]) (b := false) h (by decide)
      have f7 := eq_litS (m := [60, 61]) (b := false) h (by decide)
      have f8 := eq_litS (m := [62, 61]) (b := false) h (by decide)
      have f9 := eq_litS (m := [61, 61]) (b := false) h (by decide)
      have f10 := eq_litS (m := [33, 61]) (b := false) h (by decide)
      have f11 := eq_litS (m := [38, 38]) (b := false) h (by decide)
      have f12 := eq_litS (m := [124, 124]) (b := true) h (by decide)
      clear h
      go_enter Tryz.func14, Tryz.ntmps14
      go_wp2
      go_ret
      exact ⟨by rw [HM.out]; rfl, rfl⟩
    · skip
      have f0 := eq_litS (m := [60, 60, 61]) (b := false) h (by decide)
      have f1 := eq_litS (m := [62, 62, 61]) (b := false) h (by decide)
      have f2 := eq_litS (m := [43, 43]) (b := false) h (by decide)
      have f3 := eq_litS (m := [45, 45]) (b := false) h (by decide)
      have f4 := eq_litS (m := [45, 62]) (b := false) h (by decide)
      have f5 := eq_litS (m := [60, 60]) (b := false) h (by decide)
      have f6 := eq_litS (m := [62, 62]) (b := false) h (by decide)
      have f7 := eq_litS (m := [60, 61]) (b := false) h (by decide)
      have f8 := eq_litS (m := [62, 61]) (b := false) h (by decide)
      have f9 := eq_litS (m := [61, 61]) (b := false) h (by decide)
      have f10 := eq_litS (m := [33, 61]) (b := false) h (by decide)
      have f11 := eq_litS (m := [38, 38]) (b := false) h (by decide)
      have f12 := eq_litS (m := [124, 124]) (b := false) h (by decide)
      have f13 := eq_litS (m := [43, 61]) (b := true) h (by decide)
      clear h
      go_enter Tryz.func14, Tryz.ntmps14
      go_wp2
      go_ret
      exact ⟨by rw [HM.out]; rfl, rfl⟩
    · skip
      have f0 := eq_litS (m := [60, 60, 61]) (b := false) h (by decide)
      have f1 := eq_litS (m := [62, 62, 61]) (b := false) h (by decide)
      have f2 := eq_litS (m := [43, 43]) (b := false) h (by decide)
      have f3 := eq_litS (m := [45, 45]) (b := false) h (by decide)
      have f4 := eq_litS (m := [45, 62]) (b := false) h (by decide)
      have f5 := eq_litS (m := [60, 60]) (b := false) h (by decide)
      have f6 := eq_litS (m := [62, 62]) (b := false) h (by decide)
      have f7 := eq_litS (m := [60, 61]) (b := false) h (by decide)
      have f8 := eq_litS (m := [62, 61]) (b := false) h (by decide)
      have f9 := eq_litS (m := [61, 61]) (b := false) h (by decide)
      have f10 := eq_litS (m := [33, 61]) (b := false) h (by decide)
      have f11 := eq_litS (m := [38, 38]) (b := false) h (by decide)
      have f12 := eq_litS (m := [124, 124]) (b := false) h (by decide)
      have f13 := eq_litS (m := [43, 61]) (b := false) h (by decide)
      have f14 := eq_litS (m := [45, 61]) (b := true) h (by decide)
      clear h
      go_enter Tryz.func14, Tryz.ntmps14
      go_wp2
      go_ret
      exact ⟨by rw [HM.out]; rfl, rfl⟩
    · skip
      have f0 := eq_litS (m := [60, 60, 61]) (b := false) h (by decide)
      have f1 := eq_litS (m := [62, 62, 61]) (b := false) h (by decide)
      have f2 := eq_litS (m := [43, 43]) (b := false) h (by decide)
      have f3 := eq_litS (m := [45, 45]) (b := false) h (by decide)
      have f4 := eq_litS (m := [45, 62]) (b := false) h (by decide)
      have f5 := eq_litS (m := [60, 60]) (b := false) h (by decide)
      have f6 := eq_litS (m := [62, 62]) (b := false) h (by decide)
      have f7 := eq_litS (m := [60, 61]) (b := false) h (by decide)
      have f8 := eq_litS (m := [62, 61]) (b := false) h (by decide)
      have f9 := eq_litS (m := [61, 61]) (b := false) h (by decide)
      have f10 := eq_litS (m := [33, 61]) (b := false) h (by decide)
      have f11 := eq_litS (m := [38, 38]) (b := false) h (by decide)
      have f12 := eq_litS (m := [124, 124]) (b := false) h (by decide)
      have f13 := eq_litS (m := [43, 61]) (b := false) h (by decide)
      have f14 := eq_litS (m := [45, 61]) (b := false) h (by decide)
      have f15 := eq_litS (m := [42, 61]) (b := true) h (by decide)
      clear h
      go_enter Tryz.func14, Tryz.ntmps14
      go_wp2
      go_ret
      exact ⟨by rw [HM.out]; rfl, rfl⟩
    · skip
      have f0 := eq_litS (m := [60, 60, 61]) (b := false) h (by decide)
      have f1 := eq_litS (m := [62, 62, 61]) (b := false) h (by decide)
      have f2 := eq_litS (m := [43, 43]) (b := false) h (by decide)
      have f3 := eq_litS (m := [45, 45]) (b := false) h (by decide)
      have f4 := eq_litS (m := [45, 62]) (b := false) h (by decide)
      have f5 := eq_litS (m := [60, 60]) (b := false) h (by decide)
      have f6 := eq_litS (m := [62, 62]) (b := false) h (by decide)
      have f7 := eq_litS (m := [60, 61]) (b := false) h (by decide)
      have f8 := eq_litS (m := [62, 61]) (b := false) h (by decide)
      have f9 := eq_litS (m := [61, 61]) (b := false) h (by decide)
      have f10 := eq_litS (m := [33, 61]) (b := false) h (by decide)
      have f11 := eq_litS (m := [38, 38]) (b := false) h (by decide)
      have f12 := eq_litS (m := [124, 124]) (b := false) h (by decide)
      have f13 := eq_litS (m := [43, 61]) (b := false) h (by decide)
      have f14 := eq_litS (m := [45, 61]) (b := false) h (by decide)
      have f15 := eq_litS (m := [42, 61]) (b := false) h (by decide)
      have f16 := eq_litS (m := [47, 61]) (b := true) h (by decide)
      clear h
      go_enter Tryz.func14, Tryz.ntmps14
      go_wp2
      go_ret
      exact ⟨by rw [HM.out]; rfl, rfl⟩
    · skip
      have f0 := eq_litS (m := [60, 60, 61]) (b := false) h (by decide)
      have f1 := eq_litS (m := [62, 62, 61]) (b := false) h (by decide)
      have f2 := eq_litS (m := [43, 43]) (b := false) h (by decide)
      have f3 := eq_litS (m := [45, 45]) (b := false) h (by decide)
      have f4 := eq_litS (m := [45, 62]) (b := false) h (by decide)
      have f5 := eq_litS (m := [60, 60]) (b := false) h (by decide)
      have f6 := eq_litS (m := [62, 62]) (b := false) h (by decide)
      have f7 := eq_litS (m := [60, 61]) (b := false) h (by decide)
      have f8 := eq_litS (m := [62, 61]) (b := false) h (by decide)
      have f9 := eq_litS (m := [61, 61]) (b := false) h (by decide)
      have f10 := eq_litS (m := [33, 61]) (b := false) h (by decide)
      have f11 := eq_litS (m := [38, 38]) (b := false) h (by decide)
      have f12 := eq_litS (m := [124, 124]) (b := false) h (by decide)
      have f13 := eq_litS (m := [43, 61]) (b := false) h (by decide)
      have f14 := eq_litS (m := [45, 61]) (b := false) h (by decide)
      have f15 := eq_litS (m := [42, 61]) (b := false) h (by decide)
      have f16 := eq_litS (m := [47, 61]) (b := false) h (by decide)
      have f17 := eq_litS (m := [37, 61]) (b := true) h (by decide)
      clear h
      go_enter Tryz.func14, Tryz.ntmps14
      go_wp2
      go_ret
      exact ⟨by rw [HM.out]; rfl, rfl⟩
    · skip
      have f0 := eq_litS (m := [60, 60, 61]) (b := false) h (by decide)
      have f1 := eq_litS (m := [62, 62, 61]) (b := false) h (by decide)
      have f2 := eq_litS (m := [43, 43]) (b := false) h (by decide)
      have f3 := eq_litS (m := [45, 45]) (b := false) h (by decide)
      have f4 := eq_litS (m := [45, 62]) (b := false) h (by decide)
      have f5 := eq_litS (m := [60, 60]) (b := false) h (by decide)
      have f6 := eq_litS (m := [62, 62]) (b := false) h (by decide)
      have f7 := eq_litS (m := [60, 61]) (b := false) h (by decide)
      have f8 := eq_litS (m := [62, 61]) (b := false) h (by decide)
      have f9 := eq_litS (m := [61, 61]) (b := false) h (by decide)
      have f10 := eq_litS (m := [33, 61]) (b := false) h (by decide)
      have f11 := eq_litS (m := [38, 38]) (b := false) h (by decide)
      have f12 := eq_litS (m := [124, 124]) (b := false) h (by decide)
      have f13 := eq_litS (m := [43, 61]) (b := false) h (by decide)
      have f14 := eq_litS (m := [45, 61]) (b := false) h (by decide)
      have f15 := eq_litS (m := [42, 61]) (b := false) h (by decide)
      have f16 := eq_litS (m := [47, 61]) (b := false) h (by decide)
      have f17 := eq_litS (m := [37, 61]) (b := false) h (by decide)
      have f18 := eq_litS (m := [38, 61]) (b := true) h (by decide)
      clear h
      go_enter Tryz.func14, Tryz.ntmps14
      go_wp2
      go_ret
      exact ⟨by rw [HM.out]; rfl, rfl⟩
    · skip
      have f0 := eq_litS (m := [60, 60, 61]) (b := false) h (by decide)
      have f1 := eq_litS (m := [62, 62, 61]) (b := false) h (by decide)
      have f2 := eq_litS (m := [43, 43]) (b := false) h (by decide)
      have f3 := eq_litS (m := [45, 45]) (b := false) h (by decide)
      have f4 := eq_litS (m := [45, 62]) (b := false) h (by decide)
      have f5 := eq_litS (m := [60, 60]) (b := false) h (by decide)
      have f6 := eq_litS (m := [62, 62]) (b := false) h (by decide)
      have f7 := eq_litS (m := [60, 61]) (b := false) h (by decide)
      have f8 := eq_litS (m := [62, 61]) (b := false) h (by decide)
      have f9 := eq_litS (m := [61, 61]) (b := false) h (by decide)
      have f10 := eq_litS (m := [33, 61]) (b := false) h (by decide)
      have f11 := eq_litS (m := [38, 38]) (b := false) h (by decide)
      have f12 := eq_litS (m := [124, 124]) (b := false) h (by decide)
      have f13 := eq_litS (m := [43, 61]) (b := false) h (by decide)
      have f14 := eq_litS (m := [45, 61]) (b := false) h (by decide)
      have f15 := eq_litS (m := [42, 61]) (b := false) h (by decide)
      have f16 := eq_litS (m := [47, 61]) (b := false) h (by decide)
      have f17 := eq_litS (m := [37, 61]) (b := false) h (by decide)
      have f18 := eq_litS (m := [38, 61]) (b := false) h (by decide)
      have f19 := eq_litS (m := [124, 61]) (b := true) h (by decide)
      clear h
      go_enter Tryz.func14, Tryz.ntmps14
      go_wp2
      go_ret
      exact ⟨by rw [HM.out]; rfl, rfl⟩
    · skip
      have f0 := eq_litS (m := [60, 60, 61]) (b := false) h (by decide)
      have f1 := eq_litS (m := [62, 62, 61]) (b := false) h (by decide)
      have f2 := eq_litS (m := [43, 43]) (b := false) h (by decide)
      have f3 := eq_litS (m := [45, 45]) (b := false) h (by decide)
      have f4 := eq_litS (m := [45, 62]) (b := false) h (by decide)
      have f5 := eq_litS (m := [60, 60]) (b := false) h (by decide)
      have f6 := eq_litS (m := [62, 62]) (b := false) h (by decide)
      have f7 := eq_litS (m := [60, 61]) (b := false) h (by decide)
      have f8 := eq_litS (m := [62, 61]) (b := false) h (by decide)
      have f9 := eq_litS (m := [61, 61]) (b := false) h (by decide)
      have f10 := eq_litS (m := [33, 61]) (b := false) h (by decide)
      have f11 := eq_litS (m := [38, 38]) (b := false) h (by decide)
      have f12 := eq_litS (m := [124, 124]) (b := false) h (by decide)
      have f13 := eq_litS (m := [43, 61]) (b := false) h (by decide)
      have f14 := eq_litS (m := [45, 61]) (b := false) h (by decide)
      have f15 := eq_litS (m := [42, 61]) (b := false) h (by decide)
      have f16 := eq_litS (m := [47, 61]) (b := false) h (by decide)
      have f17 := eq_litS (m := [37, 61]) (b := false) h (by decide)
      have f18 := eq_litS (m := [38, 61]) (b := false) h (by decide)
      have f19 := eq_litS (m := [124, 61]) (b := false) h (by decide)
      have f20 := eq_litS (m := [94, 61]) (b := true) h (by decide)
      clear h
      go_enter Tryz.func14, Tryz.ntmps14
      go_wp2
      go_ret
      exact ⟨by rw [HM.out]; rfl, rfl⟩
  · have hm2 := hm
    rw [signs_eq] at hm2
    have f0 := ne_litS (s := s) (l := [60, 60, 61]) (fun h => hm2 (by rw [h]; decide))
    have f1 := ne_litS (s := s) (l := [62, 62, 61]) (fun h => hm2 (by rw [h]; decide))
    have f2 := ne_litS (s := s) (l := [43, 43]) (fun h => hm2 (by rw [h]; decide))
    have f3 := ne_litS (s := s) (l := [45, 45]) (fun h => hm2 (by rw [h]; decide))
    have f4 := ne_litS (s := s) (l := [45, 62]) (fun h => hm2 (by rw [h]; decide))
    have f5 := ne_litS (s := s) (l := [60, 60]) (fun h => hm2 (by rw [h]; decide))
    have f6 := ne_litS (s := s) (l := [62, 62]) (fun h => hm2 (by rw [h]; decide))
    have f7 := ne_litS (s := s) (l := [60, 61]) (fun h => hm2 (by rw [h]; decide))
    have f8 := ne_litS (s := s) (l := [62, 61]) (fun h => hm2 (by rw [h]; decide))
    have f9 := ne_litS (s := s) (l := [61, 61]) (fun h => hm2 (by rw [h]; decide))
    have f10 := ne_litS (s := s) (l := [33, 61]) (fun h => hm2 (by rw [h]; decide))
    have f11 := ne_litS (s := s) (l := [38, 38]) (fun h => hm2 (by rw [h]; decide))
    have f12 := ne_litS (s := s) (l := [124, 124]) (fun h => hm2 (by rw [h]; decide))
    have f13 := ne_litS (s := s) (l := [43, 61]) (fun h => hm2 (by rw [h]; decide))
    have f14 := ne_litS (s := s) (l := [45, 61]) (fun h => hm2 (by rw [h]; decide))
    have f15 := ne_litS (s := s) (l := [42, 61]) (fun h => hm2 (by rw [h]; decide))
    have f16 := ne_litS (s := s) (l := [47, 61]) (fun h => hm2 (by rw [h]; decide))
    have f17 := ne_litS (s := s) (l := [37, 61]) (fun h => hm2 (by rw [h]; decide))
    have f18 := ne_litS (s := s) (l := [38, 61]) (fun h => hm2 (by rw [h]; decide))
    have f19 := ne_litS (s := s) (l := [124, 61]) (fun h => hm2 (by rw [h]; decide))
    have f20 := ne_litS (s := s) (l := [94, 61]) (fun h => hm2 (by rw [h]; decide))
    clear hm2
    by_cases h1 : s.size = 1
    · have hl := szl s
      rw [h1] at hl
      match hL : s.data.toList, hl with
      | [c], _ =>
        have es : s = ⟨#[c]⟩ := ba_eq hL
        have HM : Hid (isSgn [c] = decide (c ∈ Lx.signs1)) := Lib.hid (by rw [hL] at hm; unfold isSgn; rw [decide_eq_false hm]; rfl)
        have HC : Hid (∀ W, Calls Tryz.prog 27 #[.string ⟨#[43, 45, 42, 47, 37, 38, 124, 94, 126, 33, 60, 62, 61, 63, 58, 59, 44, 46, 40, 41, 91, 93, 123, 125]⟩, .string s] W fun e w' => e = .returned (.bool (decide (c ∈ Lx.signs1))) ∧ W = w') := Lib.hid fun W => by
          rw [es]
          refine (Tryz.strings_Contains_one sgnC c W).mono ?_
          rintro e w' ⟨rfl, rfl⟩
          exact ⟨by rw [indexB_mem, sgnC_eq], rfl⟩
        clear hm hL es hl
        generalize decide (c ∈ Lx.signs1) = g at HM HC
        go_enter Tryz.func14, Tryz.ntmps14
        go_wp2_with (go_at_call 27; (with_reducible refine (HC.out _).mono ?_); rintro e w' ⟨rfl, rfl⟩)
        go_ret
        exact ⟨by rw [HM.out]; rfl, rfl⟩
    · have HM : Hid (isSgn s.data.toList = false) := Lib.hid (by
        unfold isSgn
        rw [decide_eq_false hm]
        have hl := szl s
        match hL : s.data.toList, hl with
        | [], _ => rfl
        | [c], hl => exact absurd hl.symm h1
        | a :: b :: r, _ => rfl)
      have hd1 : ((s.size : Int) == 1) = false := by simp; omega
      clear hm
      go_enter Tryz.func14, Tryz.ntmps14
      go_wp2
      go_ret
      exact ⟨by rw [HM.out]; rfl, rfl⟩
end Go.Proofs.YteplbbjmbhgllaaGreatDoor

namespace Go.Proofs.YteplbbjmbhgllaaGreatDoor
open Go.RowKit
set_option linter.unusedVariables false
set_option linter.unusedSimpArgs false

theorem signs_len : (∀ x ∈ Lx.signs3, x.length = 3) ∧ (∀ x ∈ Lx.signs2, x.length = 2) ∧ (∀ x ∈ Lx.signs3, ∀ b ∈ x, b.toNat < 128) ∧ (∀ x ∈ Lx.signs2, ∀ b ∈ x, b.toNat < 128) ∧ (∀ b ∈ Lx.signs1, b.toNat < 128) := by decide +kernel
/-- The longest sign of at most n bytes. -/
def sgnK (l : List UInt8) : Nat → Option Nat
  | 0 => none
  | n + 1 => if n + 1 ≤ l.length ∧ isSgn (l.take (n + 1)) = true then some (n + 1) else sgnK l n
theorem sgnK_3 (l : List UInt8) : Lx.signL l = sgnK l 3 := by
  obtain ⟨l3, l2, _, _, _⟩ := signs_len
  have e3 : 3 ≤ l.length → isSgn (l.take 3) = decide (l.take 3 ∈ Lx.signs3) := fun h => by
    have hl : (l.take 3).length = 3 := by rw [List.length_take]; omega
    have h2 : ¬ l.take 3 ∈ Lx.signs2 := fun hm => by have := l2 _ hm; omega
    unfold isSgn
    have e : decide (l.take 3 ∈ Lx.signs3 ++ Lx.signs2) = decide (l.take 3 ∈ Lx.signs3) := by rw [decide_eq_decide, List.mem_append]; exact ⟨fun h => h.resolve_right h2, .inl⟩
    rw [e]
    match hT : l.take 3, hl with
    | [a, b, c], _ => simp
  have e2 : 2 ≤ l.length → isSgn (l.take 2) = decide (l.take 2 ∈ Lx.signs2) := fun h => by
    have hl : (l.take 2).length = 2 := by rw [List.length_take]; omega
    have h2 : ¬ l.take 2 ∈ Lx.signs3 := fun hm => by have := l3 _ hm; omega
    unfold isSgn
    have e : decide (l.take 2 ∈ Lx.signs3 ++ Lx.signs2) = decide (l.take 2 ∈ Lx.signs2) := by rw [decide_eq_decide, List.mem_append]; exact ⟨fun h => h.resolve_left h2, .inr⟩
    rw [e]
    match hT : l.take 2, hl with
    | [a, b], _ => simp
  have e1 : ∀ b r, l = b :: r → isSgn (l.take 1) = decide (b ∈ Lx.signs1) := fun b r h => by
    subst h
    have hn : ¬ ([b] : List UInt8) ∈ Lx.signs3 ++ Lx.signs2 := fun hm => by
      rcases List.mem_append.1 hm with hm | hm
      · have := l3 _ hm; simp at this
      · have := l2 _ hm; simp at this
    unfold isSgn
    rw [List.take_succ_cons, List.take_zero, decide_eq_false hn]
    rfl
  have hA : (3 ≤ l.length ∧ l.take 3 ∈ Lx.signs3) ↔ (3 ≤ l.length ∧ isSgn (l.take 3) = true) := ⟨fun h => ⟨h.1, by rw [e3 h.1]; exact decide_eq_true h.2⟩, fun h => ⟨h.1, by have := h.2; rw [e3 h.1] at this; exact of_decide_eq_true this⟩⟩
  have hB : (2 ≤ l.length ∧ l.take 2 ∈ Lx.signs2) ↔ (2 ≤ l.length ∧ isSgn (l.take 2) = true) := ⟨fun h => ⟨h.1, by rw [e2 h.1]; exact decide_eq_true h.2⟩, fun h => ⟨h.1, by have := h.2; rw [e2 h.1] at this; exact of_decide_eq_true this⟩⟩
  unfold Lx.signL
  unfold sgnK sgnK sgnK sgnK
  by_cases m3 : 3 ≤ l.length ∧ l.take 3 ∈ Lx.signs3
  · have m3' := hA.1 m3
    rw [if_pos m3]
    exact (if_pos m3').symm
  · have m3' : ¬ (3 ≤ l.length ∧ isSgn (l.take 3) = true) := fun h => m3 (hA.2 h)
    rw [if_neg m3]
    refine Eq.trans ?_ (if_neg m3').symm
    by_cases m2 : 2 ≤ l.length ∧ l.take 2 ∈ Lx.signs2
    · have m2' := hB.1 m2
      rw [if_pos m2]
      exact (if_pos m2').symm
    · have m2' : ¬ (2 ≤ l.length ∧ isSgn (l.take 2) = true) := fun h => m2 (hB.2 h)
      rw [if_neg m2]
      refine Eq.trans ?_ (if_neg m2').symm
      clear m2 m2' m3 m3' hA hB e2 e3
      cases l with
      | nil => rfl
      | cons b r =>
        have e := e1 b r rfl
        by_cases m1 : b ∈ Lx.signs1
        · refine (if_pos m1).trans (if_pos ⟨by simp, ?_⟩).symm
          rw [e]; exact decide_eq_true m1
        · refine (if_neg m1).trans (if_neg (fun h => ?_)).symm
          have h2 := h.2
          rw [e] at h2
          exact m1 (of_decide_eq_true h2)
theorem isSgn_ascii {l : List UInt8} (h : isSgn l = true) : ∀ b ∈ l, b.toNat < 128 := by
  obtain ⟨_, _, a3, a2, a1⟩ := signs_len
  unfold isSgn at h
  by_cases hm : l ∈ Lx.signs3 ++ Lx.signs2
  · rcases List.mem_append.1 hm with hm | hm
    · exact a3 _ hm
    · exact a2 _ hm
  · rw [decide_eq_false hm, Bool.false_or] at h
    match l, h with
    | [c], h =>
      intro b hb
      simp at hb
      rw [hb]
      exact a1 c (of_decide_eq_true h)
end Go.Proofs.YteplbbjmbhgllaaGreatDoor
