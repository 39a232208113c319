/-
  The reference's decimal text of a number.
-/
import Derived.Test.YteepjngkbjbheaaDoorProg
import Derived.Test.YteepjngkbjbheaaDoorIf
import Derived.Test.YteepjngkbjbheaaDoorRegion
import Derived.Test.YteepjngkbjbheaaDoorMachWf
import Derived.Test.YteepjngkbjbheaaDoorTraceLaw1
import Derived.Lib.ItoaLen
import Derived.Laws.IdiomStrings
namespace Go.Proofs.YteepjngkbjbheaaDoor
open Go.RowKit
set_option linter.unusedVariables false
set_option linter.unusedSimpArgs false

/-- The digits so far: v is yet to be written ahead of t. -/
def DecS (u v : Nat) (t : List UInt8) : Prop := (t = [] ∧ v = u) ∨ (t ≠ [] ∧ (if v = 0 then t else Lib.decDigits v ++ t) = Lib.decDigits u)
theorem DecS.done {u v : Nat} {t : List UInt8} (h : DecS u v t) (h0 : v = 0) (ht : t ≠ []) : t = Lib.decDigits u := by
  rcases h with ⟨h1, _⟩ | ⟨_, h2⟩
  · exact absurd h1 ht
  · rw [if_pos h0] at h2; exact h2
theorem DecS.step {u v : Nat} {t : List UInt8} (h : DecS u v t) (hc : 0 < v ∨ t = []) : DecS u (v / 10) (UInt8.ofNat (48 + v % 10) :: t) := by
  refine .inr ⟨by simp, ?_⟩
  have key : (if v / 10 = 0 then [UInt8.ofNat (48 + v % 10)] else Lib.decDigits (v / 10) ++ [UInt8.ofNat (48 + v % 10)]) = Lib.decDigits v := by
    by_cases c : v < 10
    · rw [if_pos (by omega), Lib.decDigits.eq_def v, dif_pos c, Nat.mod_eq_of_lt c]
    · rw [if_neg (by omega), Lib.decDigits.eq_def v, dif_neg c]
  rcases h with ⟨rfl, rfl⟩ | ⟨h1, h2⟩
  · rw [← key]
  · have hv : v ≠ 0 := by
      rcases hc with hc | hc
      · omega
      · exact absurd hc h1
    rw [if_neg hv, ← key] at h2
    rw [← h2]
    split <;> simp [List.append_assoc]
theorem DecS.short {u v : Nat} {t : List UInt8} (h : DecS u v t) (hu : u < 18446744073709551616) : t.length ≤ 20 := by
  have h1 : (Lib.decDigits u).length = Lib.nDigits u := by rw [Lib.decDigits_eq]; simp
  have h2 := Lib.nDigits_le20 u hu
  rcases h with ⟨rfl, _⟩ | ⟨_, h3⟩
  · simp
  · have h4 := congrArg List.length h3
    split at h4
    · omega
    · rw [List.length_append] at h4; omega
def emptyN : Value → Nat
  | .string s => if s.size = 0 then 1 else 0
  | _ => 0
theorem emptyN_le (v : Value) : emptyN v ≤ 1 := by unfold emptyN; split <;> (try split) <;> omega
theorem digit_conv (w : World) (k : Nat) : (convert 57 9 (.slice (some ⟨w.heap.size, 0, none⟩) 1 1)).run Tryd.prog (w.alloc (.cells #[.int .u8 (48 + (k : Int) % 10)] 5)) = .ok (.string ⟨#[UInt8.ofNat (48 + k % 10)]⟩) (w.alloc (.cells #[.int .u8 (48 + (k : Int) % 10)] 5)) := by
  refine run_convert_bytes_back _ 57 9 5 ⟨w.heap.size, 0, none⟩ 1 [UInt8.ofNat (48 + k % 10)] Tryd.underlying57 Tryd.underlying5 Tryd.underlying9 (fun j hj => ?_)
  have : j = 0 := by simp at hj; omega
  subst this
  have h := (cells_of_block (heap_alloc_new w (.cells #[.int .u8 (48 + (k : Int) % 10)] 5))).1 0
  have e : ((UInt8.ofNat (48 + k % 10)).toNat : Int) = 48 + (k : Int) % 10 := by
    simp
    omega
  show _ = some (Value.int .u8 ((UInt8.ofNat (48 + k % 10)).toNat : Int))
  rw [e]
  exact h
set_option maxRecDepth 100000 in
set_option maxHeartbeats 2000000 in
theorem rdec_pos (n : Nat) (hn : n < 9223372036854775808) (w : World) : Calls Tryd.prog 39 #[.int .i64 n] w fun e w' => ∃ s : ByteArray, e = .returned (.string s) ∧ s.toList = Lib.decDigits n ∧ Below w.heap.size w w' := by
  have hA1 := cell_alloc_if
  have hA2 := frozen_alloc_if
  have hA3 := cell_set_if
  go_enter Tryd.func39, Tryd.ntmps39
  go_wp2
  go_loopw [3, 4] (fun v t wr => ∃ (k : Nat) (s : ByteArray), v = .int .u64 k ∧ k < 18446744073709551616 ∧ t = .string s ∧ Ext w wr ∧ Hid (DecS n k s.data.toList)) (fun v t _ => 2 * (intOf v).toNat + emptyN t)
  case atStart => exact ⟨n, ⟨#[]⟩, by go_num, by omega, rfl, Below.refl _ _, Lib.hid (.inl ⟨rfl, rfl⟩)⟩
  case round =>
    obtain ⟨k, s, rfl, hk, rfl, hX, HD⟩ := hrel
    have hs := HD.out.short (by omega)
    have hsz : s.size ≤ 20 := by have h0 : s.size = s.data.size := rfl; rw [h0, ← Array.length_toList]; exact hs
    have hwz := (Ext.of hX).size
    by_cases hk0 : 0 < k
    · have hcv := digit_conv wr k
      have HST := Lib.hid (HD.out.step (.inl hk0))
      clear HD
      go_wp2
      refine ⟨⟨k / 10, _, by go_num, by omega, rfl, by unfold Ext at *; (repeat' (first | (with_reducible exact Below.refl _ _) | (with_reducible assumption) | (with_reducible refine Below.setCell ?_ ?_ _) | (with_reducible refine Below.alloc ?_ ?_ _) | (with_reducible refine Below.drew ?_) | (with_reducible refine below_drewN ?_ _) | (with_reducible refine below_next ?_ (by with_reducible assumption)) | omega | (dsimp only; omega) | (simp only [World.size_alloc, World.size_setCell, World.size_drew, World.heap_drewN]; omega))), ?_⟩, by have h1 := emptyN_le (Value.string ({ data := #[48 + UInt8.ofNat (k % 10)] } ++ s)); simp [intOf]; omega⟩
      have e : UInt8.ofNat (48 + k % 10) = 48 + UInt8.ofNat (k % 10) := by simp
      rw [e] at HST
      simpa using HST
    · obtain rfl : k = 0 := by omega
      by_cases he : s.data.toList = []
      · have hse : s = ⟨#[]⟩ := by
          obtain ⟨⟨l⟩⟩ := s
          simp at he
          subst he; rfl
        subst hse
        have hcv := digit_conv wr 0
        rw [show (48 + ((0 : Nat) : Int) % 10) = 48 from rfl] at hcv
        have HST := Lib.hid (HD.out.step (.inr rfl))
        clear HD
        go_wp2
        exact ⟨⟨0, _, rfl, by omega, rfl, by unfold Ext at *; (repeat' (first | (with_reducible exact Below.refl _ _) | (with_reducible assumption) | (with_reducible refine Below.setCell ?_ ?_ _) | (with_reducible refine Below.alloc ?_ ?_ _) | (with_reducible refine Below.drew ?_) | (with_reducible refine below_drewN ?_ _) | (with_reducible refine below_next ?_ (by with_reducible assumption)) | omega | (dsimp only; omega) | (simp only [World.size_alloc, World.size_setCell, World.size_drew, World.heap_drewN]; omega))), by simpa using HST⟩, by decide⟩
      · have hb : (s.toList == []) = false := by rw [ByteArray.toList_eq]; simpa using he
        have hb2 : (s.toList == (⟨#[]⟩ : ByteArray).toList) = false := by
          rw [show (⟨#[]⟩ : ByteArray).toList = [] by rw [ByteArray.toList_eq]]; exact hb
        go_wp2
        ((try simp only [Exit.inBlock, Exit.then]); go_light; refine bodyPost_ret (by simp [results, Tryd.results39, go_sem, *, ↓IntWalk.iteOmega]; try rfl) rfl ?_)
        exact ⟨s, rfl, by rw [ByteArray.toList_eq]; exact HD.out.done rfl he, Ext.of hX⟩
set_option maxRecDepth 100000 in
set_option maxHeartbeats 2000000 in
theorem rdec_neg (n : Nat) (hn0 : 0 < n) (hn : n ≤ 9223372036854775808) (w : World) : Calls Tryd.prog 39 #[.int .i64 (-(n : Int))] w fun e w' => ∃ s : ByteArray, e = .returned (.string s) ∧ s.toList = 45 :: Lib.decDigits n ∧ Below w.heap.size w w' := by
  have hw1 : IntKind.u64.wrap (-(n : Int)) = 18446744073709551616 - (n : Int) := by rw [show ∀ m : Int, IntKind.u64.wrap m = m % 18446744073709551616 from fun m => by simp [IntKind.wrap, IntKind.bits, IntKind.signed]]; omega
  have hw2 : IntKind.u64.wrap (-(18446744073709551616 - (n : Int))) = n := by rw [show ∀ m : Int, IntKind.u64.wrap m = m % 18446744073709551616 from fun m => by simp [IntKind.wrap, IntKind.bits, IntKind.signed]]; omega
  have hA1 := cell_alloc_if
  have hA2 := frozen_alloc_if
  have hA3 := cell_set_if
  go_enter Tryd.func39, Tryd.ntmps39
  go_wp2
  go_loopw [3, 4] (fun v t wr => ∃ (k : Nat) (s : ByteArray), v = .int .u64 k ∧ k < 18446744073709551616 ∧ t = .string s ∧ Ext w wr ∧ Hid (DecS n k s.data.toList)) (fun v t _ => 2 * (intOf v).toNat + emptyN t)
  case atStart => exact ⟨n, ⟨#[]⟩, by first | go_num | rw [hw1, hw2], by omega, rfl, Below.refl _ _, Lib.hid (.inl ⟨rfl, rfl⟩)⟩
  case round =>
    obtain ⟨k, s, rfl, hk, rfl, hX, HD⟩ := hrel
    have hs := HD.out.short (by omega)
    have hsz : s.size ≤ 20 := by have h0 : s.size = s.data.size := rfl; rw [h0, ← Array.length_toList]; exact hs
    have hwz := (Ext.of hX).size
    by_cases hk0 : 0 < k
    · have hcv := digit_conv wr k
      have HST := Lib.hid (HD.out.step (.inl hk0))
      clear HD
      go_wp2
      refine ⟨⟨k / 10, _, by go_num, by omega, rfl, by unfold Ext at *; (repeat' (first | (with_reducible exact Below.refl _ _) | (with_reducible assumption) | (with_reducible refine Below.setCell ?_ ?_ _) | (with_reducible refine Below.alloc ?_ ?_ _) | (with_reducible refine Below.drew ?_) | (with_reducible refine below_drewN ?_ _) | (with_reducible refine below_next ?_ (by with_reducible assumption)) | omega | (dsimp only; omega) | (simp only [World.size_alloc, World.size_setCell, World.size_drew, World.heap_drewN]; omega))), ?_⟩, by have h1 := emptyN_le (Value.string ({ data := #[48 + UInt8.ofNat (k % 10)] } ++ s)); simp [intOf]; omega⟩
      have e : UInt8.ofNat (48 + k % 10) = 48 + UInt8.ofNat (k % 10) := by simp
      rw [e] at HST
      simpa using HST
    · obtain rfl : k = 0 := by omega
      by_cases he : s.data.toList = []
      · have hse : s = ⟨#[]⟩ := by
          obtain ⟨⟨l⟩⟩ := s
          simp at he
          subst he; rfl
        subst hse
        have hcv := digit_conv wr 0
        rw [show (48 + ((0 : Nat) : Int) % 10) = 48 from rfl] at hcv
        have HST := Lib.hid (HD.out.step (.inr rfl))
        clear HD
        go_wp2
        exact ⟨⟨0, _, rfl, by omega, rfl, by unfold Ext at *; (repeat' (first | (with_reducible exact Below.refl _ _) | (with_reducible assumption) | (with_reducible refine Below.setCell ?_ ?_ _) | (with_reducible refine Below.alloc ?_ ?_ _) | (with_reducible refine Below.drew ?_) | (with_reducible refine below_drewN ?_ _) | (with_reducible refine below_next ?_ (by with_reducible assumption)) | omega | (dsimp only; omega) | (simp only [World.size_alloc, World.size_setCell, World.size_drew, World.heap_drewN]; omega))), by simpa using HST⟩, by decide⟩
      · have hb : (s.toList == []) = false := by rw [ByteArray.toList_eq]; simpa using he
        have hb2 : (s.toList == (⟨#[]⟩ : ByteArray).toList) = false := by
          rw [show (⟨#[]⟩ : ByteArray).toList = [] by rw [ByteArray.toList_eq]]; exact hb
        go_wp2
        ((try simp only [Exit.inBlock, Exit.then]); go_light; refine bodyPost_ret (by simp [results, Tryd.results39, go_sem, *, ↓IntWalk.iteOmega]; try rfl) rfl ?_)
        exact ⟨_, rfl, by rw [ByteArray.toList_eq, ← HD.out.done rfl he]; simp, Ext.of hX⟩
theorem rdec_any (n : Int) (hn : I64 n) (w : World) : Calls Tryd.prog 39 #[.int .i64 n] w fun e w' => e = .returned (.string ⟨(Lib.itoa n).toArray⟩) ∧ Below w.heap.size w w' := by
  obtain ⟨h1, h2⟩ := hn
  have key : ∀ (s : ByteArray) (l : List UInt8), s.toList = l → s = ⟨l.toArray⟩ := fun s l h => by
    rw [← h, ByteArray.toList_eq]
  rcases Int.le_total 0 n with h | h
  · obtain ⟨k, rfl⟩ := Int.eq_ofNat_of_zero_le h
    refine (rdec_pos k (by omega) w).mono ?_
    rintro e w' ⟨s, rfl, hs, hb⟩
    exact ⟨by rw [key _ _ hs, Lib.itoa, if_neg (by omega)]; rfl, hb⟩
  · by_cases h0 : n = 0
    · subst h0
      refine (rdec_pos 0 (by omega) w).mono ?_
      rintro e w' ⟨s, rfl, hs, hb⟩
      exact ⟨by rw [key _ _ hs, Lib.itoa, if_neg (by omega)]; rfl, hb⟩
    · obtain ⟨k, hk⟩ := Int.eq_ofNat_of_zero_le (show 0 ≤ -n by omega)
      obtain rfl : n = -(k : Int) := by omega
      refine (rdec_neg k (by omega) (by omega) w).mono ?_
      rintro e w' ⟨s, rfl, hs, hb⟩
      exact ⟨by rw [key _ _ hs, Lib.itoa, if_pos (by omega)]; simp, hb⟩
end Go.Proofs.YteepjngkbjbheaaDoor
