/-
  The program's numbers in sixteens: strconv.FormatUint at base 16, strings.Repeat of one nought.
-/
import Derived.Test.YteepjngkbjbheaaDoorProg
import Derived.Test.YteepjngkbjbheaaDoorIf
import Derived.Test.YteepjngkbjbheaaDoorRegion
import Derived.Test.YteepjngkbjbheaaDoorTraceLaw1
import Derived.Laws.IdiomStrings
import Derived.Lib.ItoaWalk
import Derived.Deep.CutBlock
namespace Go.Proofs.YteepjngkbjbheaaDoor
open Go.RowKit
set_option linter.unusedVariables false
set_option linter.unusedSimpArgs false

/-- The cell of the library's table that is read here. -/
def TabZ (w : World) : Prop := 4 < w.heap.size ∧ w.cell? ⟨4, 15, none⟩ = some (.int .u8 4)
theorem TabZ.next {w w' : World} (h : TabZ w) (hb : Below w.heap.size w w') : TabZ w' :=
  ⟨Nat.lt_of_lt_of_le h.1 hb.size, (hb.cell (p := ⟨4, 15, none⟩) h.1).trans h.2⟩

set_option maxRecDepth 100000 in
theorem tz64_16 (w : World) (ht : TabZ w) : Calls Tryd.prog 84 #[.int .u64 16] w fun e w' => e = .returned (.int .i64 4) ∧ w = w' := by
  obtain ⟨h1, h2⟩ := ht
  have hneg : IntKind.u64.wrap (-16) = 18446744073709551600 := by kernel_rfl
  have hand : bits BinOp.and IntKind.u64 16 18446744073709551600 = 16 := by kernel_rfl
  have hmul : IntKind.u64.wrap (16 * 285870213051353865) = 4573923408821661840 := by kernel_rfl
  go_enter Tryd.func84, Tryd.ntmps84
  go_wp2
  go_returns
  exact ⟨rfl, rfl⟩
set_option maxRecDepth 100000 in
theorem tz_16 (w : World) (ht : TabZ w) : Calls Tryd.prog 82 #[.int .u64 16] w fun e w' => e = .returned (.int .i64 4) ∧ w = w' := by
  have HT := Lib.hid ht
  clear ht
  go_enter Tryd.func82, Tryd.ntmps82
  go_wp2_with (go_at_call 84; (with_reducible refine (tz64_16 _ HT.out).mono ?_); rintro e w' ⟨rfl, rfl⟩)
  go_returns
  exact ⟨rfl, rfl⟩
set_option maxRecDepth 100000 in
theorem pow_16 (w : World) : Calls Tryd.prog 81 #[.int .i64 16] w fun e w' => e = .returned (.bool true) ∧ w = w' := by
  have hand : bits BinOp.and IntKind.i64 16 15 = 0 := by kernel_rfl
  go_enter Tryd.func81, Tryd.ntmps81
  go_wp2
  go_returns
  exact ⟨rfl, rfl⟩

def dig36 : ByteArray := ⟨#[48, 49, 50, 51, 52, 53, 54, 55, 56, 57, 97, 98, 99, 100, 101, 102, 103, 104, 105, 106, 107, 108, 109, 110, 111, 112, 113, 114, 115, 116, 117, 118, 119, 120, 121, 122]⟩
@[go_sem ↓ high] theorem fold_dig36 : (⟨#[48, 49, 50, 51, 52, 53, 54, 55, 56, 57, 97, 98, 99, 100, 101, 102, 103, 104, 105, 106, 107, 108, 109, 110, 111, 112, 113, 114, 115, 116, 117, 118, 119, 120, 121, 122]⟩ : ByteArray) = dig36 := rfl
theorem dig36_at : ∀ x : Nat, x < 16 → dig36.data.toList.getD x 0 = digH x := by decide +kernel
theorem idx36 (x : Nat) (h : x < 16) (z : Int) (hz : z = (x : Int)) (W : World) : (Instr.index 9 (.string dig36) (.int .u64 z)).run Tryd.prog W = .ok (.int .u8 ((digH x).toNat : Int)) W := by
  subst hz
  rw [run_index_string W 9 dig36 .u64 _ Tryd.underlying9, dif_pos ⟨by omega, by rw [show dig36.size = 36 from rfl]; omega⟩]
  have e : ((x : Int)).toNat = x := by omega
  simp only [e]
  rw [Lib.getD_at dig36 x (by rw [show dig36.size = 36 from rfl]; omega), dig36_at x h]
theorem wraps_u64 (n : Int) (h₀ : 0 ≤ n) (h₁ : n < 2 ^ 64) : IntKind.u64.wrap n = n := by rw [IntKind.wrap_u64]; omega
theorem and15 (k : Nat) (h : k < 18446744073709551616) : bits BinOp.and IntKind.u64 (k : Int) 15 = ((k % 16 : Nat) : Int) := by
  have := bits_mask .u64 64 (by decide) wraps_u64 4 (by decide) (k : Int) (by omega) (by omega)
  rw [show ((2 : Int) ^ 4 - 1) = 15 by decide, show ((2 : Int) ^ 4) = 16 by decide] at this
  rw [this]; omega

/-- The row of 65 bytes: noughts, then t. -/
def hexA (t : List UInt8) : Array Value := (List.replicate (65 - t.length) (Value.int .u8 0) ++ t.map fun b => Value.int .u8 (b.toNat : Int)).toArray
theorem hexA_nil : #[Value.int .u8 0, Value.int .u8 0, Value.int .u8 0, Value.int .u8 0, Value.int .u8 0, Value.int .u8 0, Value.int .u8 0, Value.int .u8 0, Value.int .u8 0, Value.int .u8 0, Value.int .u8 0, Value.int .u8 0, Value.int .u8 0, Value.int .u8 0, Value.int .u8 0, Value.int .u8 0, Value.int .u8 0, Value.int .u8 0, Value.int .u8 0, Value.int .u8 0, Value.int .u8 0, Value.int .u8 0, Value.int .u8 0, Value.int .u8 0, Value.int .u8 0, Value.int .u8 0, Value.int .u8 0, Value.int .u8 0, Value.int .u8 0, Value.int .u8 0, Value.int .u8 0, Value.int .u8 0, Value.int .u8 0, Value.int .u8 0, Value.int .u8 0, Value.int .u8 0, Value.int .u8 0, Value.int .u8 0, Value.int .u8 0, Value.int .u8 0, Value.int .u8 0, Value.int .u8 0, Value.int .u8 0, Value.int .u8 0, Value.int .u8 0, Value.int .u8 0, Value.int .u8 0, Value.int .u8 0, Value.int .u8 0, Value.int .u8 0, Value.int .u8 0, Value.int .u8 0, Value.int .u8 0, Value.int .u8 0, Value.int .u8 0, Value.int .u8 0, Value.int .u8 0, Value.int .u8 0, Value.int .u8 0, Value.int .u8 0, Value.int .u8 0, Value.int .u8 0, Value.int .u8 0, Value.int .u8 0, Value.int .u8 0] = hexA [] := by kernel_rfl
theorem hexA_step {t : List UInt8} {m : Nat} (h : t.length + (m + 1) = 65) (b : UInt8) : (hexA t).setIfInBounds m (.int .u8 (b.toNat : Int)) = hexA (b :: t) := by
  have e1 : 65 - t.length = m + 1 := by omega
  have e2 : 65 - (b :: t).length = m := by simp; omega
  unfold hexA
  rw [e1, e2, List.replicate_succ', List.append_assoc]
  apply Array.toList_inj.1
  simp [List.set_append]
theorem hexA_at {t : List UInt8} {m : Nat} (h : t.length + (m + 1) = 65) : (hexA t)[m]? = some (.int .u8 0) := by
  unfold hexA
  rw [show 65 - t.length = m + 1 by omega]
  simp [List.getElem?_append]
theorem hexA_back {t : List UInt8} {m i : Nat} (h : t.length + m = 65) (hi : i < t.length) : (hexA t)[m + i]? = some (.int .u8 ((t[i]).toNat : Int)) := by
  unfold hexA
  rw [show 65 - t.length = m by omega]
  simp [List.getElem?_append, hi]
theorem setC_at {w : World} {b : Nat} {c : Array Value} {T : TypeId} (h : w.heap[b]? = some (.cells c T (0, 0))) (o : Nat) (v : Value) : (w.setCell ⟨b, o, none⟩ v).heap[b]? = some (.cells (c.setIfInBounds o v) T (0, 0)) := by
  simp [World.setCell, Array.getElem?_modify, h]

set_option maxRecDepth 100000 in
set_option maxHeartbeats 2000000 in
theorem format_16 (n : Nat) (hn : n < 18446744073709551616) (w : World) (ht : TabZ w) : Calls Tryd.prog 71 #[.slice none 0 0, .int .u64 n, .int .i64 16, .bool false, .bool false] w fun e w' => e = .returned (.tuple #[.slice none 0 0, .string ⟨(hexD n).toArray⟩]) ∧ Below w.heap.size w w' := by
  have HT := Lib.hid ht
  clear ht
  go_enter Tryd.func71, Tryd.ntmps71
  go_wp2_with (first
    | (go_at_call 81; (with_reducible refine (pow_16 _).mono ?_); rintro e w' ⟨rfl, rfl⟩)
    | (go_at_call 82; (with_reducible refine (tz_16 _ (HT.out.next (by (repeat' (first | (with_reducible exact Below.refl _ _) | (with_reducible assumption) | (with_reducible refine Below.setCell ?_ ?_ _) | (with_reducible refine Below.alloc ?_ ?_ _) | (with_reducible refine Below.drew ?_) | (with_reducible refine below_drewN ?_ _) | (with_reducible refine below_next ?_ (by with_reducible assumption)) | omega | (dsimp only; omega) | (simp only [World.size_alloc, World.size_setCell, World.size_drew, World.heap_drewN]; omega)))))).mono ?_); rintro e w' ⟨rfl, rfl⟩))
  go_loopw [1, 13] (fun u i wr => ∃ (k : Nat) (t : List UInt8) (j : Nat), u = .int .u64 k ∧ k < 18446744073709551616 ∧ i = .int .i64 j ∧ 50 ≤ j ∧ j ≤ 65 ∧ Below w.heap.size w wr ∧ wr.heap[w.heap.size]? = some (.cells (hexA t) 114 (0, 0)) ∧ Hid (t.length + j = 65 ∧ HexS n k t)) (fun u _ _ => (intOf u).toNat)
  case atStart =>
    exact ⟨n, [], 65, rfl, by omega, rfl, by omega, by omega, by (repeat' (first | (with_reducible exact Below.refl _ _) | (with_reducible assumption) | (with_reducible refine Below.setCell ?_ ?_ _) | (with_reducible refine Below.alloc ?_ ?_ _) | (with_reducible refine Below.drew ?_) | (with_reducible refine below_drewN ?_ _) | (with_reducible refine below_next ?_ (by with_reducible assumption)) | omega | (dsimp only; omega) | (simp only [World.size_alloc, World.size_setCell, World.size_drew, World.heap_drewN]; omega))), by rw [← hexA_nil]; exact heap_alloc_new _ _, Lib.hid ⟨rfl, List.append_nil _⟩⟩
  case round =>
    obtain ⟨k, t, j, rfl, hk, rfl, hj1, hj2, hB, hBk, HH⟩ := hrel
    by_cases hk0 : 16 ≤ k
    · have hs := (HH.out.2.step hk0).short hn
      rw [List.length_cons] at hs
      obtain ⟨m, rfl⟩ : ∃ m, j = m + 1 := ⟨j - 1, by omega⟩
      have hc : wr.cell? ⟨w.heap.size, m, none⟩ = some (.int .u8 0) := by rw [Lib.cell_of_heap hBk]; exact hexA_at HH.out.1
      have hand := and15 k hk
      have hix := fun W => idx36 (k % 16) (by omega) ((k : Int) % 16) (by omega) W
      have hf := fun o => Lib.frozen_of_heap hBk o
      have hm : 50 ≤ m := by have := HH.out.1; omega
      clear hs hj1
      go_wp2
      go_roundw
      case rel => exact ⟨k / 16, digH (k % 16) :: t, m, by go_num, by omega, by go_num, by omega, by omega, by (repeat' (first | (with_reducible exact Below.refl _ _) | (with_reducible assumption) | (with_reducible refine Below.setCell ?_ ?_ _) | (with_reducible refine Below.alloc ?_ ?_ _) | (with_reducible refine Below.drew ?_) | (with_reducible refine below_drewN ?_ _) | (with_reducible refine below_next ?_ (by with_reducible assumption)) | omega | (dsimp only; omega) | (simp only [World.size_alloc, World.size_setCell, World.size_drew, World.heap_drewN]; omega))), by rw [← hexA_step HH.out.1]; exact setC_at hBk _ _, Lib.hid ⟨by have := HH.out.1; simp; omega, HH.out.2.step hk0⟩⟩
      case measure => simp [intOf]; omega
    · have hk16 : k < 16 := by omega
      have hs := HH.out.2.done hk16
      obtain ⟨m, rfl⟩ : ∃ m, j = m + 1 := ⟨j - 1, by omega⟩
      have hc : wr.cell? ⟨w.heap.size, m, none⟩ = some (.int .u8 0) := by rw [Lib.cell_of_heap hBk]; exact hexA_at HH.out.1
      have hix := fun W => idx36 k hk16 (k : Int) rfl W
      have hf := fun o => Lib.frozen_of_heap hBk o
      have hl1 : (digH k :: t).length = 65 - m := by have := HH.out.1; simp; omega
      have hcv : (convert 57 9 (.slice (some ⟨w.heap.size, m, none⟩) (65 - m) (65 - m))).run Tryd.prog (wr.setCell ⟨w.heap.size, m, none⟩ (.int .u8 ((digH k).toNat : Int))) = .ok (.string ⟨(hexD n).toArray⟩) (wr.setCell ⟨w.heap.size, m, none⟩ (.int .u8 ((digH k).toNat : Int))) := by
        have hB2 := setC_at hBk m (.int .u8 ((digH k).toNat : Int))
        rw [hexA_step HH.out.1] at hB2
        have h := run_convert_bytes_back (P := Tryd.prog) (wr.setCell ⟨w.heap.size, m, none⟩ (.int .u8 ((digH k).toNat : Int))) 57 9 5 ⟨w.heap.size, m, none⟩ (65 - m) (digH k :: t) Tryd.underlying57 Tryd.underlying5 Tryd.underlying9 (fun i hi => by
          rw [add_at, Lib.cell_of_heap hB2]
          exact hexA_back (by rw [hl1]; omega) hi)
        rw [hl1, hs] at h
        exact h
      have hsl : ∀ W, (Instr.sliceAt 114 (.pointer (some ⟨w.heap.size, 0, none⟩)) (some (.int .i64 (m : Int))) none none).run Tryd.prog W = .ok (.slice (some ⟨w.heap.size, m, none⟩) (65 - m) (65 - m)) W := fun W => by
        have hal : (Tryd.prog).arrayLen 114 = 65 := by kernel_rfl
        have hel : (Tryd.prog).elem 114 = 5 := by kernel_rfl
        rw [run_sliceAt_array_l W 114 ⟨w.heap.size, 0, none⟩ (by kernel_rfl) .i64 (m : Int) (by omega) (by rw [hal]; omega), hal, hel]
        have hsz : (sizeOf 5).run Tryd.prog W = .ok 1 W := by go_simp
        rw [hsz]
        have e : ((m : Int)).toNat = m := by omega
        simp only [Result.andThen, slicedAt, e]
        rw [if_neg (by omega), add_at]
        simp
      clear hs hj1 hl1
      go_wp2
      go_returns
      exact ⟨rfl, by (repeat' (first | (with_reducible exact Below.refl _ _) | (with_reducible assumption) | (with_reducible refine Below.setCell ?_ ?_ _) | (with_reducible refine Below.alloc ?_ ?_ _) | (with_reducible refine Below.drew ?_) | (with_reducible refine below_drewN ?_ _) | (with_reducible refine below_next ?_ (by with_reducible assumption)) | omega | (dsimp only; omega) | (simp only [World.size_alloc, World.size_setCell, World.size_drew, World.heap_drewN]; omega)))⟩

set_option maxRecDepth 100000 in
theorem inner_16 (n : Nat) (hn : n < 18446744073709551616) (w : World) (ht : TabZ w) : Calls Tryd.prog 60 #[.int .u64 n, .int .i64 16] w fun e w' => e = .returned (.string ⟨(hexD n).toArray⟩) ∧ Below w.heap.size w w' := by
  have HF := Lib.hid (format_16 n hn w ht)
  clear ht
  go_enter Tryd.func60, Tryd.ntmps60
  go_wp2_with (go_at_call 71; (with_reducible refine HF.out.mono ?_); rintro e w' ⟨rfl, hbl⟩; obtain ⟨hc, hf, hz⟩ := cif hbl; (try simp only [World.size_alloc, World.size_setCell, World.size_drew, World.heap_drewN] at hz))
  go_returns
  exact ⟨rfl, by (repeat' (first | (with_reducible exact Below.refl _ _) | (with_reducible assumption) | (with_reducible refine Below.setCell ?_ ?_ _) | (with_reducible refine Below.alloc ?_ ?_ _) | (with_reducible refine Below.drew ?_) | (with_reducible refine below_drewN ?_ _) | (with_reducible refine below_next ?_ (by with_reducible assumption)) | omega | (dsimp only; omega) | (simp only [World.size_alloc, World.size_setCell, World.size_drew, World.heap_drewN]; omega)))⟩
set_option maxRecDepth 100000 in
theorem fuint_16 (n : Nat) (hn : n < 18446744073709551616) (w : World) (ht : TabZ w) : Calls Tryd.prog 50 #[.int .u64 n, .int .i64 16] w fun e w' => e = .returned (.string ⟨(hexD n).toArray⟩) ∧ Below w.heap.size w w' := by
  have HF := Lib.hid (inner_16 n hn w ht)
  clear ht
  go_enter Tryd.func50, Tryd.ntmps50
  go_wp2_with (go_at_call 60; (with_reducible refine HF.out.mono ?_); rintro e w' ⟨rfl, hbl⟩; obtain ⟨hc, hf, hz⟩ := cif hbl; (try simp only [World.size_alloc, World.size_setCell, World.size_drew, World.heap_drewN] at hz))
  go_returns
  exact ⟨rfl, by (repeat' (first | (with_reducible exact Below.refl _ _) | (with_reducible assumption) | (with_reducible refine Below.setCell ?_ ?_ _) | (with_reducible refine Below.alloc ?_ ?_ _) | (with_reducible refine Below.drew ?_) | (with_reducible refine below_drewN ?_ _) | (with_reducible refine below_next ?_ (by with_reducible assumption)) | omega | (dsimp only; omega) | (simp only [World.size_alloc, World.size_setCell, World.size_drew, World.heap_drewN]; omega)))⟩
end Go.Proofs.YteepjngkbjbheaaDoor
