/-
  The reference's decimal text of 0.
  The program's tests of a rune: a letter, a digit, and what the closures ask.
-/
import Derived.Test.YteplbbjmbhgllaaGreatDoorProg
import Derived.Test.YteplbbjmbhgllaaGreatDoorIf
import Derived.Test.YteplbbjmbhgllaaGreatDoorRegion
import Derived.Test.YteplbbjmbhgllaaGreatDoorLexM05
import Derived.Lib.ItoaLen
import Derived.Laws.IdiomStrings
import Derived.Test.YteplbbjmbhgllaaGreatDoorLexM10
namespace Go.Proofs.YteplbbjmbhgllaaGreatDoor
open Go.RowKit
set_option linter.unusedVariables false
set_option linter.unusedSimpArgs false

/-- The digits so far: v is yet to be written ahead of t. -/
def DecS (u v : Nat) (t : List UInt8) : Prop := (t = [] ∧ v = u) ∨ (t ≠ [] ∧ (if v = 0 then t else Lib.decDigits v ++ t) = Lib.decDigits u)
theorem DecS.done {u v : Nat} {t : List UInt8} (h : DecS u v t) (h0 : v = 0) (ht : t ≠ []) : t = Lib.decDigits u := by
  rcases h with ⟨h1, _⟩ | ⟨_, h2⟩
  · exact absurd h1 ht
  · rw [if_pos h0] at h2; exact h2
theorem DecS.step {u v : Nat} {t : List UInt8} (h : DecS u v t) (hc : 0 < v ∨ t = []) : DecS u (v / 10) (UInt8.ofNat (48 + v % 10) :: t) := by
  refine .inr ⟨by simp, ?_⟩
  have key : (if v / 10 = 0 then [UInt8.ofNat (48 + v % 10)] else Lib.decDigits (v / 10) ++ [UInt8.ofNat (48 + v % 10)]) = Lib.decDigits v := by
    by_cases c : v < 10
    · rw [if_pos (by omega), Lib.decDigits.eq_def v, dif_pos c, Nat.mod_eq_of_lt c]
    · rw [if_neg (by omega), Lib.decDigits.eq_def v, dif_neg c]
  rcases h with ⟨rfl, rfl⟩ | ⟨h1, h2⟩
  · rw [← key]
  · have hv : v ≠ 0 := by
      rcases hc with hc | hc
      · omega
      · exact absurd hc h1
    rw [if_neg hv, ← key] at h2
    rw [← h2]
    split <;> simp [List.append_assoc]
theorem DecS.short {u v : Nat} {t : List UInt8} (h : DecS u v t) (hu : u < 18446744073709551616) : t.length ≤ 20 := by
  have h1 : (Lib.decDigits u).length = Lib.nDigits u := by rw [Lib.decDigits_eq]; simp
  have h2 := Lib.nDigits_le20 u hu
  rcases h with ⟨rfl, _⟩ | ⟨_, h3⟩
  · simp
  · have h4 := congrArg List.length h3
    split at h4
    · omega
    · rw [List.length_append] at h4; omega
def emptyN : Value → Nat
  | .string s => if s.size = 0 then 1 else 0
  | _ => 0
theorem emptyN_le (v : Value) : emptyN v ≤ 1 := by unfold emptyN; split <;> (try split) <;> omega
theorem digit_conv (w : World) (k : Nat) : (convert 34 9 (.slice (some ⟨w.heap.size, 0, none⟩) 1 1)).run Tryz.prog (w.alloc (.cells #[.int .u8 (48 + (k : Int) % 10)] 5)) = .ok (.string ⟨#[UInt8.ofNat (48 + k % 10)]⟩) (w.alloc (.cells #[.int .u8 (48 + (k : Int) % 10)] 5)) := by
  refine run_convert_bytes_back _ 34 9 5 ⟨w.heap.size, 0, none⟩ 1 [UInt8.ofNat (48 + k % 10)] Tryz.underlying34 Tryz.underlying5 Tryz.underlying9 (fun j hj => ?_)
  have : j = 0 := by simp at hj; omega
  subst this
  have h := (cells_of_block (heap_alloc_new w (.cells #[.int .u8 (48 + (k : Int) % 10)] 5))).1 0
  have e : ((UInt8.ofNat (48 + k % 10)).toNat : Int) = 48 + (k : Int) % 10 := by
    simp
    omega
  show _ = some (Value.int .u8 ((UInt8.ofNat (48 + k % 10)).toNat : Int))
  rw [e]
  exact h
set_option maxRecDepth 100000 in
set_option maxHeartbeats 2000000 in
theorem rdec_pos (n : Nat) (hn : n < 9223372036854775808) (w : World) : Calls Tryz.prog 11 #[.int .i64 n] w fun e w' => ∃ s : ByteArray, e = .returned (.string s) ∧ s.toList = Lib.decDigits n ∧ Below w.heap.size w w' := by
  have hA1 := cell_alloc_if
  have hA2 := frozen_alloc_if
  have hA3 := cell_set_if
  go_enter Tryz.func11, Tryz.ntmps11
  go_wp2
  go_loopw [3, 4] (fun v t wr => ∃ (k : Nat) (s : ByteArray), v = .int .u64 k ∧ k < 18446744073709551616 ∧ t = .string s ∧ Ext w wr ∧ Hid (DecS n k s.data.toList)) (fun v t _ => 2 * (intOf v).toNat + emptyN t)
  case atStart => exact ⟨n, ⟨#[]⟩, by go_num, by omega, rfl, Below.refl _ _, Lib.hid (.inl ⟨rfl, rfl⟩)⟩
  case round =>
    obtain ⟨k, s, rfl, hk, rfl, hX, HD⟩ := hrel
    have hs := HD.out.short (by omega)
    have hsz : s.size ≤ 20 := by have h0 : s.size = s.data.size := rfl; rw [h0, ← Array.length_toList]; exact hs
    have hwz := (Ext.of hX).size
    by_cases hk0 : 0 < k
    · have hcv := digit_conv wr k
      have HST := Lib.hid (HD.out.step (.inl hk0))
      clear HD
      go_wp2
      refine ⟨⟨k / 10, _, by go_num, by omega, rfl, by unfold Ext at *; (repeat' (first | (with_reducible exact Below.refl _ _) | (with_reducible assumption) | (with_reducible refine Below.setCell ?_ ?_ _) | (with_reducible refine Below.alloc ?_ ?_ _) | (with_reducible refine Below.drew ?_) | (with_reducible refine below_drewN ?_ _) | (with_reducible refine below_next ?_ (by with_reducible assumption)) | omega | (dsimp only; omega) | (simp only [World.size_alloc, World.size_setCell, World.size_drew, World.heap_drewN]; omega))), ?_⟩, by have h1 := emptyN_le (Value.string ({ data := #[48 + UInt8.ofNat (k % 10)] } ++ s)); simp [intOf]; omega⟩
      have e : UInt8.ofNat (48 + k % 10) = 48 + UInt8.ofNat (k % 10) := by simp
      rw [e] at HST
      simpa using HST
    · obtain rfl : k = 0 := by omega
      by_cases he : s.data.toList = []
      · have hse : s = ⟨#[]⟩ := by
          obtain ⟨⟨l⟩⟩ := s
          simp at he
          subst he; rfl
        subst hse
        have hcv := digit_conv wr 0
        rw [show (48 + ((0 : Nat) : Int) % 10) = 48 from rfl] at hcv
        have HST := Lib.hid (HD.out.step (.inr rfl))
        clear HD
        go_wp2
        exact ⟨⟨0, _, rfl, by omega, rfl, by unfold Ext at *; (repeat' (first | (with_reducible exact Below.refl _ _) | (with_reducible assumption) | (with_reducible refine Below.setCell ?_ ?_ _) | (with_reducible refine Below.alloc ?_ ?_ _) | (with_reducible refine Below.drew ?_) | (with_reducible refine below_drewN ?_ _) | (with_reducible refine below_next ?_ (by with_reducible assumption)) | omega | (dsimp only; omega) | (simp only [World.size_alloc, World.size_setCell, World.size_drew, World.heap_drewN]; omega))), by simpa using HST⟩, by decide⟩
      · have hb : (s.toList == []) = false := by rw [ByteArray.toList_eq]; simpa using he
        have hb2 : (s.toList == (⟨#[]⟩ : ByteArray).toList) = false := by
          rw [show (⟨#[]⟩ : ByteArray).toList = [] by rw [ByteArray.toList_eq]]; exact hb
        go_wp2
        ((try simp only [Exit.inBlock, Exit.then]); go_light; refine bodyPost_ret (by simp [results, Tryz.results11, go_sem, *, ↓IntWalk.iteOmega]; try rfl) rfl ?_)
        exact ⟨s, rfl, by rw [ByteArray.toList_eq]; exact HD.out.done rfl he, Ext.of hX⟩
theorem rdec_zero (w : World) : Calls Tryz.prog 11 #[.int .i64 0] w fun e w' => e = .returned (.string ⟨#[48]⟩) ∧ Below w.heap.size w w' := by
  refine (rdec_pos 0 (by omega) w).mono ?_
  rintro e w' ⟨s, rfl, hs, hb⟩
  refine ⟨?_, hb⟩
  have h2 : Lib.decDigits 0 = [48] := by rw [Lib.decDigits.eq_def, dif_pos (by omega)]; rfl
  rw [h2, ByteArray.toList_eq] at hs
  have : s = ⟨#[48]⟩ := by
    obtain ⟨⟨l⟩⟩ := s
    simp at hs
    subst hs; rfl
  rw [this]
end Go.Proofs.YteplbbjmbhgllaaGreatDoor

namespace Go.Proofs.YteplbbjmbhgllaaGreatDoor
open Go.RowKit
set_option linter.unusedVariables false
set_option linter.unusedSimpArgs false

theorem letter_any (c : Nat) (hc : c < 2147483648) (w : World) : Calls Tryz.prog 32 #[.int .i32 c] w fun e w' => e = .returned (.bool (Lx.isLet c)) ∧ w = w' := by
  obtain ⟨a1, ha1⟩ : ∃ b, b = decide ((c : Int) ≥ 97) := ⟨_, rfl⟩
  obtain ⟨a2, ha2⟩ : ∃ b, b = decide ((c : Int) ≤ 122) := ⟨_, rfl⟩
  obtain ⟨a3, ha3⟩ : ∃ b, b = decide ((c : Int) ≥ 65) := ⟨_, rfl⟩
  obtain ⟨a4, ha4⟩ : ∃ b, b = decide ((c : Int) ≤ 90) := ⟨_, rfl⟩
  obtain ⟨a5, ha5⟩ : ∃ b, b = ((c : Int) == 95) := ⟨_, rfl⟩
  have HM : Hid (Lx.isLet c = ((a1 && a2) || (a3 && a4) || a5)) := Lib.hid (by subst ha1 ha2 ha3 ha4 ha5; unfold Lx.isLet; rw [Bool.eq_iff_iff]; simp; omega)
  replace ha1 := ha1.symm
  replace ha2 := ha2.symm
  replace ha3 := ha3.symm
  replace ha4 := ha4.symm
  replace ha5 := ha5.symm
  have hb1 : decide (97 ≤ c) = a1 := by rw [← ha1, decide_eq_decide]; omega
  have hb2 : decide (c ≤ 122) = a2 := by rw [← ha2, decide_eq_decide]; omega
  have hb3 : decide (65 ≤ c) = a3 := by rw [← ha3, decide_eq_decide]; omega
  have hb4 : decide (c ≤ 90) = a4 := by rw [← ha4, decide_eq_decide]; omega
  generalize Lx.isLet c = out at HM
  go_enter Tryz.func32, Tryz.ntmps32
  cases a1 <;> cases a2 <;> cases a3 <;> cases a4 <;> cases a5 <;>
    (go_wp2
     go_ret
     exact ⟨by rw [HM.out]; rfl, rfl⟩)
theorem digit_any (c : Nat) (hc : c < 2147483648) (w : World) : Calls Tryz.prog 34 #[.int .i32 c] w fun e w' => e = .returned (.bool (Lx.isDig c)) ∧ w = w' := by
  by_cases h1 : 48 ≤ c
  · have HM : Hid (Lx.isDig c = decide ((c : Int) ≤ 57)) := Lib.hid (by unfold Lx.isDig; by_cases h : c ≤ 57 <;> simp [h1] <;> omega)
    go_enter Tryz.func34, Tryz.ntmps34
    go_wp2
    go_ret
    exact ⟨by rw [HM.out]; rfl, rfl⟩
  · have HM : Hid (Lx.isDig c = false) := Lib.hid (by unfold Lx.isDig; simp [h1])
    go_enter Tryz.func34, Tryz.ntmps34
    go_wp2
    go_ret
    exact ⟨by rw [HM.out]; rfl, rfl⟩
def pWd (c : Nat) : Bool := Lx.isLet c || Lx.isDig c
def pNm (c : Nat) : Bool := Lx.isLet c || Lx.isDig c || decide (c = 46)
theorem wordR_any (c : Nat) (hc : c < 2147483648) (w : World) : Calls Tryz.prog 33 #[.int .i32 c] w fun e w' => e = .returned (.bool (pWd c)) ∧ w = w' := by
  have HL := Lib.hid (letter_any c hc)
  have HD := Lib.hid (digit_any c hc)
  have HM : Hid (pWd c = (Lx.isLet c || Lx.isDig c)) := Lib.hid rfl
  generalize Lx.isLet c = a at HL HM
  generalize Lx.isDig c = b at HD HM
  go_enter Tryz.func33, Tryz.ntmps33
  cases a <;> cases b <;> (
    go_wp2_with (first
  | (go_at_call 32; (with_reducible refine (HL.out _).mono ?_); rintro e w' ⟨rfl, rfl⟩)
  | (go_at_call 34; (with_reducible refine (HD.out _).mono ?_); rintro e w' ⟨rfl, rfl⟩))
    go_ret
    exact ⟨by rw [HM.out]; rfl, rfl⟩)
theorem numR_any (c : Nat) (hc : c < 2147483648) (w : World) : Calls Tryz.prog 50 #[.int .i32 c] w fun e w' => e = .returned (.bool (pNm c)) ∧ w = w' := by
  have HL := Lib.hid (letter_any c hc)
  have HD := Lib.hid (digit_any c hc)
  obtain ⟨d, hd⟩ : ∃ d, ((c : Int) == 46) = d := ⟨_, rfl⟩
  have HM : Hid (pNm c = (Lx.isLet c || Lx.isDig c || d)) := Lib.hid (by unfold pNm; congr 1; rw [← hd, Bool.eq_iff_iff]; simp; omega)
  generalize Lx.isLet c = a at HL HM
  generalize Lx.isDig c = b at HD HM
  go_enter Tryz.func50, Tryz.ntmps50
  cases a <;> cases b <;> cases d <;> (
    go_wp2_with (first
  | (go_at_call 32; (with_reducible refine (HL.out _).mono ?_); rintro e w' ⟨rfl, rfl⟩)
  | (go_at_call 34; (with_reducible refine (HD.out _).mono ?_); rintro e w' ⟨rfl, rfl⟩))
    go_ret
    exact ⟨by rw [HM.out]; rfl, rfl⟩)
theorem blankR_any (c : Nat) (hc : c < 2147483648) (w : World) : Calls Tryz.prog 17 #[.int .i32 c] w fun e w' => e = .returned (.bool (Lx.isBlank c)) ∧ w = w' := by
  obtain ⟨a1, ha1⟩ : ∃ b, ((c : Int) == 32) = b := ⟨_, rfl⟩
  obtain ⟨a2, ha2⟩ : ∃ b, ((c : Int) == 9) = b := ⟨_, rfl⟩
  obtain ⟨a3, ha3⟩ : ∃ b, ((c : Int) == 13) = b := ⟨_, rfl⟩
  obtain ⟨a4, ha4⟩ : ∃ b, ((c : Int) == 10) = b := ⟨_, rfl⟩
  have HM : Hid (Lx.isBlank c = (a1 || a2 || a3 || a4)) := Lib.hid (by subst ha1 ha2 ha3 ha4; unfold Lx.isBlank; rw [Bool.eq_iff_iff]; simp; omega)
  generalize Lx.isBlank c = out at HM
  go_enter Tryz.func17, Tryz.ntmps17
  cases a1 <;> cases a2 <;> cases a3 <;> cases a4 <;>
    (go_wp2
     go_ret
     exact ⟨by rw [HM.out]; rfl, rfl⟩)
end Go.Proofs.YteplbbjmbhgllaaGreatDoor
