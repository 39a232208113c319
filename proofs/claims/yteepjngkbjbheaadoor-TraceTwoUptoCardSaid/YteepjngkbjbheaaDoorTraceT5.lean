/-
  A value as it is written, whole: the program's and the reference's; a run's end.
-/
import Derived.Test.YteepjngkbjbheaaDoorTraceT4
namespace Go.Proofs.YteepjngkbjbheaaDoor
open Go.RowKit
set_option linter.unusedVariables false
set_option linter.unusedSimpArgs false

def dig16 : ByteArray := ⟨#[48, 49, 50, 51, 52, 53, 54, 55, 56, 57, 97, 98, 99, 100, 101, 102]⟩
@[go_sem ↓ high] theorem fold_dig16 : (⟨#[48, 49, 50, 51, 52, 53, 54, 55, 56, 57, 97, 98, 99, 100, 101, 102]⟩ : ByteArray) = dig16 := rfl
theorem dig16_at : ∀ x : Nat, x < 16 → dig16.data.toList.getD x 0 = digH x := by decide +kernel
theorem idx16 (x : Nat) (h : x < 16) (z : Int) (hz : z = (x : Int)) (W : World) : (Instr.index 9 (.string dig16) (.int .u64 z)).run Tryd.prog W = .ok (.int .u8 ((digH x).toNat : Int)) W := by
  subst hz
  rw [run_index_string W 9 dig16 .u64 _ Tryd.underlying9, dif_pos ⟨by omega, by rw [show dig16.size = 16 from rfl]; omega⟩]
  have e : ((x : Int)).toNat = x := by omega
  simp only [e]
  rw [Lib.getD_at dig16 x (by rw [show dig16.size = 16 from rfl]; omega), dig16_at x h]
theorem byte_conv (w : World) (c : UInt8) : (convert 57 9 (.slice (some ⟨w.heap.size, 0, none⟩) 1 1)).run Tryd.prog (w.alloc (.cells #[.int .u8 (c.toNat : Int)] 5)) = .ok (.string ⟨#[c]⟩) (w.alloc (.cells #[.int .u8 (c.toNat : Int)] 5)) := by
  refine run_convert_bytes_back _ 57 9 5 ⟨w.heap.size, 0, none⟩ 1 [c] Tryd.underlying57 Tryd.underlying5 Tryd.underlying9 (fun j hj => ?_)
  have : j = 0 := by simp at hj; omega
  subst this
  exact (cells_of_block (heap_alloc_new w (.cells #[.int .u8 (c.toNat : Int)] 5))).1 0

/-- The digits so far: j of them are written. -/
def HexR (n j : Nat) (l : List UInt8) : Prop := l = [48, 120] ++ hexN j (n / 2 ^ (64 - 4 * j))
theorem HexR.step {n j q : Nat} {l : List UInt8} (h : HexR n j l) (hq : q + 4 * j = 60) : HexR n (j + 1) (l ++ [digH (n / 2 ^ q % 16)]) := by
  unfold HexR at *
  have e1 : 64 - 4 * (j + 1) = q := by omega
  have e2 : 64 - 4 * j = q + 4 := by omega
  rw [e2] at h
  rw [h, e1, hexN, List.append_assoc]
  congr 2
  rw [Nat.pow_add, ← Nat.div_div_eq_div_mul]
theorem HexR.len {n j : Nat} {l : List UInt8} (h : HexR n j l) : l.length = 2 + j := by
  unfold HexR at h; rw [h, List.length_append, hexN_len]; rfl

set_option maxRecDepth 100000 in
set_option maxHeartbeats 2000000 in
theorem value_3 (n : Nat) (l : Int) (hb : n < 18446744073709551616) (w : World) : Calls Tryd.prog 38 #[.agg #[.int .i64 3, .int .u64 n, .int .i64 l]] w fun e w' => e = .returned (.string ⟨([48, 120] ++ hexN 16 n).toArray⟩) ∧ Below w.heap.size w w' := by
  have hA1 := cell_alloc_if
  have hA2 := frozen_alloc_if
  have hA3 := cell_set_if
  go_enter Tryd.func38, Tryd.ntmps38
  go_wp2
  go_loopw [3, 4] (fun s i wr => ∃ (j : Nat) (x : ByteArray) (z : Int), s = .string x ∧ i = .int .i64 z ∧ z + 4 * (j : Int) = 60 ∧ j ≤ 16 ∧ Below (w.heap.size + 1) (w.alloc (.cells #[.int .i64 3, .int .u64 n, .int .i64 l] 30)) wr ∧ Hid (HexR n j x.data.toList)) (fun _ i _ => (intOf i + 4).toNat)
  case atStart => exact ⟨0, ⟨#[48, 120]⟩, 60, rfl, rfl, by omega, by omega, Below.refl _ _, Lib.hid rfl⟩
  case round =>
    obtain ⟨j, x, z, rfl, rfl, hz, hj, hB, HH⟩ := hrel
    have hsz : x.size = 2 + j := by have h0 : x.size = x.data.size := rfl; rw [h0, ← Array.length_toList]; exact HH.out.len
    have hB0 : Below w.heap.size w wr := Below.trans (by (repeat' (first | (with_reducible exact Below.refl _ _) | (with_reducible assumption) | (with_reducible refine Below.setCell ?_ ?_ _) | (with_reducible refine Below.alloc ?_ ?_ _) | (with_reducible refine Below.drew ?_) | (with_reducible refine below_drewN ?_ _) | (with_reducible refine below_next ?_ (by with_reducible assumption)) | omega | (dsimp only; omega) | (simp only [World.size_alloc, World.size_setCell, World.size_drew, World.heap_drewN]; omega)))) (hB.mono (Nat.le_succ _))
    have hwz := hB.size
    simp only [World.size_alloc] at hwz
    have c1 := hB.cell (p := ⟨w.heap.size, 1, none⟩) (Nat.lt_succ_self _)
    simp [cell_alloc_if] at c1
    by_cases hlt : j < 16
    · obtain ⟨q, rfl⟩ : ∃ q : Nat, z = (q : Int) := ⟨z.toNat, by omega⟩
      have HS := Lib.hid (HH.out.step (q := q) (by omega))
      obtain ⟨m, hm⟩ : ∃ m, m = n / 2 ^ q := ⟨_, rfl⟩
      have hm2 : m < 18446744073709551616 := by rw [hm]; exact Nat.lt_of_le_of_lt (Nat.div_le_self _ _) hb
      have hsh : (n : Int) / 2 ^ q = (m : Int) := by rw [hm]; push_cast; rfl
      have hand := and15 m hm2
      have hix := fun W => idx16 (m % 16) (by omega) ((m : Int) % 16) (by omega) W
      rw [← hm] at HS
      clear hm HH
      generalize digH (m % 16) = c at hix HS
      have hcv := byte_conv wr c
      go_wp2
      go_roundw
      case rel => exact ⟨j + 1, x ++ ⟨#[c]⟩, (q : Int) - 4, by go_num, by go_num, by push_cast; omega, by omega, by (repeat' (first | (with_reducible exact Below.refl _ _) | (with_reducible assumption) | (with_reducible refine Below.setCell ?_ ?_ _) | (with_reducible refine Below.alloc ?_ ?_ _) | (with_reducible refine Below.drew ?_) | (with_reducible refine below_drewN ?_ _) | (with_reducible refine below_next ?_ (by with_reducible assumption)) | omega | (dsimp only; omega) | (simp only [World.size_alloc, World.size_setCell, World.size_drew, World.heap_drewN]; omega))), by simpa using HS⟩
      case measure => simp [intOf]; omega
    · obtain rfl : j = 16 := by omega
      obtain rfl : z = -4 := by omega
      have hx : x = ⟨([48, 120] ++ hexN 16 n).toArray⟩ := by
        have h := HH.out
        unfold HexR at h
        rw [show n / 2 ^ (64 - 4 * 16) = n by simp] at h
        rw [ba_self x, h]
      have HX := Lib.hid hx
      clear hx HH
      go_wp2
      go_returns
      exact ⟨ret_str HX.out, hB0⟩

set_option maxRecDepth 100000 in
set_option maxHeartbeats 2000000 in
theorem written_4 (k b l : Int) (h1 : k ≠ 1) (h2 : k ≠ 2) (h3 : k ≠ 3) (w : World) : Calls Tryd.prog 33 #[.agg #[.int .i64 k, .int .u64 b, .int .i64 l]] w fun e w' => e = .returned (.string (if k = 4 then ⟨#[112, 116, 114]⟩ else ⟨#[117, 110, 100, 101, 102]⟩)) ∧ Below w.heap.size w w' := by
  have d1 : (k == 1) = false := by simpa using h1
  have d2 : (k == 2) = false := by simpa using h2
  have d3 : (k == 3) = false := by simpa using h3
  by_cases h4 : k = 4
  · subst h4
    have hA1 := cell_alloc_if
    have hA2 := frozen_alloc_if
    have hA3 := cell_set_if
    go_enter Tryd.func33, Tryd.ntmps33
    go_wp2
    go_returns
    exact ⟨rfl, by (repeat' (first | (with_reducible exact Below.refl _ _) | (with_reducible assumption) | (with_reducible refine Below.setCell ?_ ?_ _) | (with_reducible refine Below.alloc ?_ ?_ _) | (with_reducible refine Below.drew ?_) | (with_reducible refine below_drewN ?_ _) | (with_reducible refine below_next ?_ (by with_reducible assumption)) | omega | (dsimp only; omega) | (simp only [World.size_alloc, World.size_setCell, World.size_drew, World.heap_drewN]; omega)))⟩
  · have d4 : (k == 4) = false := by simpa using h4
    rw [if_neg h4]
    clear h1 h2 h3 h4
    have hA1 := cell_alloc_if
    have hA2 := frozen_alloc_if
    have hA3 := cell_set_if
    go_enter Tryd.func33, Tryd.ntmps33
    go_wp2
    go_returns
    exact ⟨rfl, by (repeat' (first | (with_reducible exact Below.refl _ _) | (with_reducible assumption) | (with_reducible refine Below.setCell ?_ ?_ _) | (with_reducible refine Below.alloc ?_ ?_ _) | (with_reducible refine Below.drew ?_) | (with_reducible refine below_drewN ?_ _) | (with_reducible refine below_next ?_ (by with_reducible assumption)) | omega | (dsimp only; omega) | (simp only [World.size_alloc, World.size_setCell, World.size_drew, World.heap_drewN]; omega)))⟩
set_option maxRecDepth 100000 in
set_option maxHeartbeats 2000000 in
theorem value_4 (k b l : Int) (h1 : k ≠ 1) (h2 : k ≠ 2) (h3 : k ≠ 3) (w : World) : Calls Tryd.prog 38 #[.agg #[.int .i64 k, .int .u64 b, .int .i64 l]] w fun e w' => e = .returned (.string (if k = 4 then ⟨#[112, 116, 114]⟩ else ⟨#[117, 110, 100, 101, 102]⟩)) ∧ Below w.heap.size w w' := by
  have d1 : (k == 1) = false := by simpa using h1
  have d2 : (k == 2) = false := by simpa using h2
  have d3 : (k == 3) = false := by simpa using h3
  by_cases h4 : k = 4
  · subst h4
    have hA1 := cell_alloc_if
    have hA2 := frozen_alloc_if
    have hA3 := cell_set_if
    go_enter Tryd.func38, Tryd.ntmps38
    go_wp2
    go_returns
    exact ⟨rfl, by (repeat' (first | (with_reducible exact Below.refl _ _) | (with_reducible assumption) | (with_reducible refine Below.setCell ?_ ?_ _) | (with_reducible refine Below.alloc ?_ ?_ _) | (with_reducible refine Below.drew ?_) | (with_reducible refine below_drewN ?_ _) | (with_reducible refine below_next ?_ (by with_reducible assumption)) | omega | (dsimp only; omega) | (simp only [World.size_alloc, World.size_setCell, World.size_drew, World.heap_drewN]; omega)))⟩
  · have d4 : (k == 4) = false := by simpa using h4
    rw [if_neg h4]
    clear h1 h2 h3 h4
    have hA1 := cell_alloc_if
    have hA2 := frozen_alloc_if
    have hA3 := cell_set_if
    go_enter Tryd.func38, Tryd.ntmps38
    go_wp2
    go_returns
    exact ⟨rfl, by (repeat' (first | (with_reducible exact Below.refl _ _) | (with_reducible assumption) | (with_reducible refine Below.setCell ?_ ?_ _) | (with_reducible refine Below.alloc ?_ ?_ _) | (with_reducible refine Below.drew ?_) | (with_reducible refine below_drewN ?_ _) | (with_reducible refine below_next ?_ (by with_reducible assumption)) | omega | (dsimp only; omega) | (simp only [World.size_alloc, World.size_setCell, World.size_drew, World.heap_drewN]; omega)))⟩
theorem valT_4 {v : V} (h1 : v.k ≠ 1) (h2 : v.k ≠ 2) (h3 : v.k ≠ 3) : (if v.k = 4 then ⟨#[112, 116, 114]⟩ else ⟨#[117, 110, 100, 101, 102]⟩ : ByteArray) = ⟨(valT v).toArray⟩ := by
  unfold valT
  rw [if_neg h1, if_neg h2, if_neg h3]
  split <;> rfl
theorem written_any (v : V) (hv : VOk v) (w : World) (ht : TabT w) : Calls Tryd.prog 33 #[vV v] w fun e w' => e = .returned (.string ⟨(valT v).toArray⟩) ∧ Below w.heap.size w w' := by
  obtain ⟨k, b, l⟩ := v
  obtain ⟨_, hb, _⟩ := hv
  by_cases h1 : k = 1
  · subst h1; exact written_1 b l hb w ht
  by_cases h2 : k = 2
  · subst h2; exact written_2 b l hb w ht
  by_cases h3 : k = 3
  · subst h3
    obtain ⟨hb1, hb2⟩ := hb
    obtain ⟨n, rfl⟩ := Int.eq_ofNat_of_zero_le hb1
    exact written_3 n l (by dsimp only at hb2; omega) w ht
  · rw [← valT_4 (v := ⟨k, b, l⟩) h1 h2 h3]
    exact written_4 k b l h1 h2 h3 w
theorem value_any (v : V) (hv : VOk v) (w : World) : Calls Tryd.prog 38 #[vV v] w fun e w' => e = .returned (.string ⟨(valT v).toArray⟩) ∧ Below w.heap.size w w' := by
  obtain ⟨k, b, l⟩ := v
  obtain ⟨_, hb, _⟩ := hv
  by_cases h1 : k = 1
  · subst h1; exact value_1 b l hb w
  by_cases h2 : k = 2
  · subst h2; exact value_2 b l hb w
  by_cases h3 : k = 3
  · subst h3
    obtain ⟨hb1, hb2⟩ := hb
    obtain ⟨n, rfl⟩ := Int.eq_ofNat_of_zero_le hb1
    exact value_3 n l (by dsimp only at hb2; omega) w
  · rw [← valT_4 (v := ⟨k, b, l⟩) h1 h2 h3]
    exact value_4 k b l h1 h2 h3 w

set_option maxRecDepth 100000 in
set_option maxHeartbeats 2000000 in
theorem ending_any (sv : Value) (o : Out) (hc : I32 o.code) (hs : ∃ A n c, sv = .slice A n c) (w : World) (ht : TabT w) : Calls Tryd.prog 37 #[.agg #[sv, .int .i64 o.st, .int .i32 o.code, .int .i64 o.steps]] w fun e w' => e = .returned (.string ⟨(endT o).toArray⟩) ∧ Below w.heap.size w w' := by
  obtain ⟨A, n, c, rfl⟩ := hs
  obtain ⟨tr, st, z, steps⟩ := o
  obtain ⟨hz1, hz2⟩ := hc
  dsimp only at hz1 hz2 ⊢
  unfold endT
  dsimp only
  by_cases h0 : st = 0
  · subst h0
    have hA1 := cell_alloc_if
    have hA2 := frozen_alloc_if
    have hA3 := cell_set_if
    go_enter Tryd.func37, Tryd.ntmps37
    go_wp2
    go_returns
    exact ⟨rfl, by (repeat' (first | (with_reducible exact Below.refl _ _) | (with_reducible assumption) | (with_reducible refine Below.setCell ?_ ?_ _) | (with_reducible refine Below.alloc ?_ ?_ _) | (with_reducible refine Below.drew ?_) | (with_reducible refine below_drewN ?_ _) | (with_reducible refine below_next ?_ (by with_reducible assumption)) | omega | (dsimp only; omega) | (simp only [World.size_alloc, World.size_setCell, World.size_drew, World.heap_drewN]; omega)))⟩
  have d0 : (st == 0) = false := by simpa using h0
  rw [if_neg h0]
  by_cases h1 : st = 1
  · subst h1
    have hI : I64 z := ⟨by omega, by omega⟩
    have HT := Lib.hid ht
    obtain ⟨x, hx⟩ : ∃ x, x = ByteArray.mk (Lib.itoa z).toArray := ⟨_, rfl⟩
    have hsz : x.size ≤ 21 := by rw [hx, ba_size]; exact itoa_len _ hI
    have HX : Hid (⟨#[101, 120, 105, 116, 101, 100, 32]⟩ ++ x = ⟨([101, 120, 105, 116, 101, 100, 32] ++ Lib.itoa z).toArray⟩) := Lib.hid (by rw [hx]; exact ba_app [101, 120, 105, 116, 101, 100, 32] _)
    have HF : Hid (∀ W, Below w.heap.size w W → Calls Tryd.prog 48 #[.int .i64 z] W fun e w' => e = .returned (.string x) ∧ Below W.heap.size W w') := Lib.hid fun W hW => by
      rw [hx]; exact itoa_any _ hI W (HT.out.next hW)
    clear hx ht hI
    have hA1 := cell_alloc_if
    have hA2 := frozen_alloc_if
    have hA3 := cell_set_if
    go_enter Tryd.func37, Tryd.ntmps37
    go_wp2_with (go_at_call 48; (with_reducible refine (HF.out _ (by (repeat' (first | (with_reducible exact Below.refl _ _) | (with_reducible assumption) | (with_reducible refine Below.setCell ?_ ?_ _) | (with_reducible refine Below.alloc ?_ ?_ _) | (with_reducible refine Below.drew ?_) | (with_reducible refine below_drewN ?_ _) | (with_reducible refine below_next ?_ (by with_reducible assumption)) | omega | (dsimp only; omega) | (simp only [World.size_alloc, World.size_setCell, World.size_drew, World.heap_drewN]; omega))))).mono ?_); rintro e w' ⟨rfl, hbl⟩; obtain ⟨hc, hf, hz⟩ := cif hbl; (try simp only [World.size_alloc, World.size_setCell, World.size_drew, World.heap_drewN] at hz))
    go_returns
    exact ⟨ret_str HX.out, by (repeat' (first | (with_reducible exact Below.refl _ _) | (with_reducible assumption) | (with_reducible refine Below.setCell ?_ ?_ _) | (with_reducible refine Below.alloc ?_ ?_ _) | (with_reducible refine Below.drew ?_) | (with_reducible refine below_drewN ?_ _) | (with_reducible refine below_next ?_ (by with_reducible assumption)) | omega | (dsimp only; omega) | (simp only [World.size_alloc, World.size_setCell, World.size_drew, World.heap_drewN]; omega)))⟩
  have d1 : (st == 1) = false := by simpa using h1
  rw [if_neg h1]
  by_cases h2 : st = 2
  · subst h2
    clear h0 h1
    have hA1 := cell_alloc_if
    have hA2 := frozen_alloc_if
    have hA3 := cell_set_if
    go_enter Tryd.func37, Tryd.ntmps37
    go_wp2
    go_returns
    exact ⟨rfl, by (repeat' (first | (with_reducible exact Below.refl _ _) | (with_reducible assumption) | (with_reducible refine Below.setCell ?_ ?_ _) | (with_reducible refine Below.alloc ?_ ?_ _) | (with_reducible refine Below.drew ?_) | (with_reducible refine below_drewN ?_ _) | (with_reducible refine below_next ?_ (by with_reducible assumption)) | omega | (dsimp only; omega) | (simp only [World.size_alloc, World.size_setCell, World.size_drew, World.heap_drewN]; omega)))⟩
  have d2 : (st == 2) = false := by simpa using h2
  rw [if_neg h2]
  by_cases h3 : st = 3
  · subst h3
    clear h0 h1 h2
    have hA1 := cell_alloc_if
    have hA2 := frozen_alloc_if
    have hA3 := cell_set_if
    go_enter Tryd.func37, Tryd.ntmps37
    go_wp2
    go_returns
    exact ⟨rfl, by (repeat' (first | (with_reducible exact Below.refl _ _) | (with_reducible assumption) | (with_reducible refine Below.setCell ?_ ?_ _) | (with_reducible refine Below.alloc ?_ ?_ _) | (with_reducible refine Below.drew ?_) | (with_reducible refine below_drewN ?_ _) | (with_reducible refine below_next ?_ (by with_reducible assumption)) | omega | (dsimp only; omega) | (simp only [World.size_alloc, World.size_setCell, World.size_drew, World.heap_drewN]; omega)))⟩
  have d3 : (st == 3) = false := by simpa using h3
  rw [if_neg h3]
  clear h0 h1 h2 h3
  have hA1 := cell_alloc_if
  have hA2 := frozen_alloc_if
  have hA3 := cell_set_if
  go_enter Tryd.func37, Tryd.ntmps37
  go_wp2
  go_returns
  exact ⟨rfl, by (repeat' (first | (with_reducible exact Below.refl _ _) | (with_reducible assumption) | (with_reducible refine Below.setCell ?_ ?_ _) | (with_reducible refine Below.alloc ?_ ?_ _) | (with_reducible refine Below.drew ?_) | (with_reducible refine below_drewN ?_ _) | (with_reducible refine below_next ?_ (by with_reducible assumption)) | omega | (dsimp only; omega) | (simp only [World.size_alloc, World.size_setCell, World.size_drew, World.heap_drewN]; omega)))⟩
end Go.Proofs.YteepjngkbjbheaaDoor
